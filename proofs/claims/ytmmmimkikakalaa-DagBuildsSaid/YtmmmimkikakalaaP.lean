/- '==' on ids. -/
import Derived.Test.YtmmmimkikakalaaF
import Derived.ChangeKeysEq
import Derived.Test.YtmmmimkikakalaaE
namespace Go.Proofs.Ytmmmimkikakalaa
open Go.RowKit
set_option linter.unusedVariables false

theorem run_eqItems_bytes (d : Nat) (x y : List UInt8) (w : World) : ∀ is : List Nat, (∀ i ∈ is, i < x.length ∧ i < y.length) →
    (Op.eqItems (d + 1) 5 1 (idB x) (idB y) is).run Try.prog w = .ok (is.all fun i => x.getD i 0 == y.getD i 0) w
  | [], _ => by simp [Op.eqItems]
  | i :: is, h => by
    have h0 := h i (by simp)
    have ih := run_eqItems_bytes d x y w is (fun j hj => h j (by simp [hj]))
    have hp : Try.prog.plainKey 5 = true := by kernel_rfl
    have hu := Try.underlying5
    simp only [Op.eqItems, Sem.run_bind, Nat.mul_one, run_part_plain w hp (idB_get x i h0.1), run_part_plain w hp (idB_get y i h0.2), Result.andThen_ok,
      run_equalIn_int w d 5 .u8 .u8 _ _ Try.underlying5]
    have hbe : (((x.getD i 0).toNat : Int) == ((y.getD i 0).toNat : Int)) = (x.getD i 0 == y.getD i 0) := by
      by_cases hh : x.getD i 0 = y.getD i 0
      · rw [hh, beq_self_eq_true, beq_self_eq_true]
      · have : ¬ (((x.getD i 0).toNat : Int) = ((y.getD i 0).toNat : Int)) := fun e => hh (UInt8.toNat_inj.1 (by omega))
        rw [beq_eq_false_iff_ne.2 this, beq_eq_false_iff_ne.2 hh]
    rw [hbe]
    cases hq : (x.getD i 0 == y.getD i 0)
    · simp only [Bool.not_false, if_true, Sem.run_pure, List.all_cons, hq, Bool.false_and]
    · simp only [Bool.not_true, Bool.false_eq_true, if_false, ih, List.all_cons, hq, Bool.true_and]

theorem all_eq (x y : List UInt8) (hx : x.length = 32) (hy : y.length = 32) : ((List.range 32).all fun i => x.getD i 0 == y.getD i 0) = (x == y) := by
  by_cases h : x = y
  · subst h; simp
  · rw [beq_eq_false_iff_ne.2 h, List.all_eq_false]
    apply Classical.byContradiction
    intro hn
    apply h
    apply List.ext_getElem (by omega)
    intro i h1 h2
    apply Classical.byContradiction
    intro hne
    exact hn ⟨i, by simp; omega, by simpa [h1, h2] using hne⟩

theorem run_equalIn_ids (d : Nat) (x y : List UInt8) (w : World) (hx : x.length = 32) (hy : y.length = 32) :
    (Op.equalIn (d + 2) 24 (.agg (idB x)) (.agg (idB y))).run Try.prog w = .ok (x == y) w := by
  have hc : Try.prog.cellsOf 5 = 1 := by kernel_rfl
  obtain ⟨i, hi⟩ := info_of_underlying Try.underlying5
  rw [run_equalIn_array w (d + 1) (idB x) (idB y) Try.underlying24 hi, hc, run_eqItems_bytes d x y w _ (fun i hi => by simp at hi; omega), all_eq x y hx hy]

@[go_sem ↓] theorem run_eql_ids (x y : List UInt8) (w : World) (hx : x.length = 32) (hy : y.length = 32) :
    (binOp .eql 24 (.agg (idB x)) (.agg (idB y))).run Try.prog w = .ok (.bool (x == y)) w := by
  rw [run_eql_struct, show (10000 : Nat) = 9998 + 2 from rfl, run_equalIn_ids 9998 x y w hx hy]; rfl

@[go_sem ↓] theorem run_neq_ids (x y : List UInt8) (w : World) (hx : x.length = 32) (hy : y.length = 32) :
    (binOp .neq 24 (.agg (idB x)) (.agg (idB y))).run Try.prog w = .ok (.bool (!(x == y))) w := by
  rw [run_neq_struct, show (10000 : Nat) = 9998 + 2 from rfl, run_equalIn_ids 9998 x y w hx hy]; rfl

end Go.Proofs.Ytmmmimkikakalaa

namespace Go.Proofs.Ytmmmimkikakalaa
open Go.RowKit
set_option linter.unusedVariables false

end Go.Proofs.Ytmmmimkikakalaa

namespace Go.Proofs.Ytmmmimkikakalaa
open Go.RowKit
set_option linter.unusedVariables false

abbrev cmpB := Lib.compareBytes

theorem cmpB_cons (a b : UInt8) (x y : List UInt8) : cmpB (a :: x) (b :: y) = if a.toNat < b.toNat then -1 else if b.toNat < a.toNat then 1 else cmpB x y := by
  simp only [cmpB, Lib.compareBytes, UInt8.lt_iff_toNat_lt]

theorem cmpB_anti : ∀ x y : List UInt8, cmpB y x = - cmpB x y
  | [], [] => rfl
  | [], _ :: _ => rfl
  | _ :: _, [] => rfl
  | a :: x, b :: y => by
    rw [cmpB_cons, cmpB_cons, cmpB_anti x y]
    generalize cmpB x y = c
    generalize a.toNat = p
    generalize b.toNat = q
    split <;> split <;> omega

theorem cmpB_zero : ∀ x y : List UInt8, cmpB x y = 0 ↔ x = y
  | [], [] => by simp [cmpB, Lib.compareBytes]
  | [], _ :: _ => by simp [cmpB, Lib.compareBytes]
  | _ :: _, [] => by simp [cmpB, Lib.compareBytes]
  | a :: x, b :: y => by
    have ih := cmpB_zero x y
    have h3 := UInt8.toNat_inj (a := a) (b := b)
    rw [cmpB_cons, List.cons.injEq, ← ih, ← h3]
    generalize cmpB x y = c
    generalize a.toNat = p
    generalize b.toNat = q
    split
    · omega
    · split <;> omega

theorem cmpB_three : ∀ x y : List UInt8, cmpB x y = -1 ∨ cmpB x y = 0 ∨ cmpB x y = 1
  | [], [] => by simp [cmpB, Lib.compareBytes]
  | [], _ :: _ => by simp [cmpB, Lib.compareBytes]
  | _ :: _, [] => by simp [cmpB, Lib.compareBytes]
  | a :: x, b :: y => by
    rw [cmpB_cons]
    have := cmpB_three x y
    split
    · simp
    · split
      · simp
      · exact this

theorem cmpB_trans : ∀ x y z : List UInt8, cmpB x y ≤ 0 → cmpB y z ≤ 0 → cmpB x z ≤ 0 ∧ (cmpB x y < 0 ∨ cmpB y z < 0 → cmpB x z < 0)
  | [], [], [], _, _ => by simp [cmpB, Lib.compareBytes]
  | [], [], _ :: _, _, _ => by simp [cmpB, Lib.compareBytes]
  | [], _ :: _, [], _, h => by simp [cmpB, Lib.compareBytes] at h
  | [], _ :: _, _ :: _, _, _ => by simp [cmpB, Lib.compareBytes]
  | _ :: _, [], _, h, _ => by simp [cmpB, Lib.compareBytes] at h
  | _ :: _, _ :: _, [], _, h => by simp [cmpB, Lib.compareBytes] at h
  | a :: x, b :: y, c :: z, h1, h2 => by
    have ih := cmpB_trans x y z
    have hi := cmpB_three x y
    have hj := cmpB_three y z
    have hk := cmpB_three x z
    rw [cmpB_cons] at h1 h2 ⊢
    rw [cmpB_cons, cmpB_cons]
    generalize cmpB x y = c1 at *
    generalize cmpB y z = c2 at *
    generalize cmpB x z = c3 at *
    generalize a.toNat = p at *
    generalize b.toNat = q at *
    generalize c.toNat = r at *
    by_cases e1 : p < q
    · by_cases e2 : q < r
      · rw [if_pos (by omega : p < r)]; omega
      · by_cases e3 : r < q
        · simp [e2, e3] at h2
        · rw [if_pos (by omega : p < r)]; omega
    · by_cases e4 : q < p
      · simp [e1, e4] at h1
      · by_cases e2 : q < r
        · rw [if_pos (by omega : p < r)]; omega
        · by_cases e3 : r < q
          · simp [e2, e3] at h2
          · simp only [e1, e4, e2, e3, if_false] at h1 h2 ⊢
            rw [if_neg (by omega), if_neg (by omega)]
            exact ih h1 h2

/-- How many of a set stand ahead of an id. -/
def placeN (x : List UInt8) : List (List UInt8) → Nat
  | [] => 0
  | a :: l => if cmpB a x < 0 then placeN x l + 1 else 0

theorem placeN_eq (x : List UInt8) : ∀ (l : List (List UInt8)) (k : Nat), k ≤ l.length → (∀ j, j < k → cmpB (l.getD j []) x < 0) → (k < l.length → 0 ≤ cmpB (l.getD k []) x) → placeN x l = k
  | [], k, h, _, _ => by simp at h; simp [placeN, h]
  | a :: l, 0, h, _, h3 => by
    have := h3 (by simp)
    simp at this
    rw [placeN, if_neg (by simpa using this)]
  | a :: l, k + 1, h, h2, h3 => by
    have h0 := h2 0 (by omega)
    simp only [List.getD_cons_zero] at h0
    rw [placeN, if_pos h0, placeN_eq x l k (by simpa using h) (fun j hj => by have := h2 (j + 1) (by omega); simpa using this) (fun hk => by have := h3 (by simpa using hk); simpa using this)]

theorem isSet_lt : ∀ (l : List (List UInt8)) (i j : Nat), isSetL l = true → i < j → j < l.length → cmpB (l.getD i []) (l.getD j []) < 0
  | [], i, j, _, _, h => by simp at h
  | [a], i, j, _, h1, h => by simp at h; omega
  | a :: b :: l, i, 0, _, h1, _ => by omega
  | a :: b :: l, i + 1, j + 1, h, h1, h2 => by
    simp only [isSetL, Bool.and_eq_true] at h
    simpa using isSet_lt (b :: l) i j h.2 (by omega) (by simpa using h2)
  | a :: b :: l, 0, 1, h, h1, h2 => by
    simp only [isSetL, Bool.and_eq_true, decide_eq_true_eq] at h
    simpa using h.1
  | a :: b :: l, 0, j + 2, h, h1, h2 => by
    simp only [isSetL, Bool.and_eq_true, decide_eq_true_eq] at h
    have := isSet_lt (b :: l) 0 (j + 1) h.2 (by omega) (by simpa using h2)
    simp only [List.getD_cons_zero, List.getD_cons_succ] at this ⊢
    exact (cmpB_trans a b _ (by have := h.1; show Lib.compareBytes a b ≤ 0; omega) (by omega)).2 (.inl h.1)

/-- Does an id stand at its place? -/
def isAt (x : List UInt8) (l : List (List UInt8)) : Bool := decide (placeN x l < l.length) && (l.getD (placeN x l) [] == x)

theorem isAt_found (x : List UInt8) (l : List (List UInt8)) (k : Nat) (hs : isSetL l = true) (hk : k < l.length) (h0 : cmpB (l.getD k []) x = 0) : placeN x l = k ∧ isAt x l = true := by
  have hx := (cmpB_zero _ _).1 h0
  have hp : placeN x l = k := placeN_eq x l k (by omega) (fun j hj => by have := isSet_lt l j k hs hj hk; rwa [hx] at this) (fun _ => by omega)
  refine ⟨hp, ?_⟩
  unfold isAt; rw [hp]; simp only [hk, hx, decide_true, beq_self_eq_true, Bool.and_self]

theorem isAt_none (x : List UInt8) (l : List (List UInt8)) (k : Nat) (hk : k ≤ l.length) (h1 : ∀ j, j < k → cmpB (l.getD j []) x < 0) (h2 : k < l.length → 0 < cmpB (l.getD k []) x) : placeN x l = k ∧ isAt x l = false := by
  have hp : placeN x l = k := placeN_eq x l k hk h1 (fun h => by have := h2 h; omega)
  refine ⟨hp, ?_⟩
  unfold isAt; rw [hp]
  by_cases hkl : k < l.length
  · have h0 := h2 hkl
    have : ¬ l.getD k [] = x := fun e => by rw [(cmpB_zero _ _).2 e] at h0; omega
    rw [beq_eq_false_iff_ne.2 this]; simp
  · simp [hkl]

end Go.Proofs.Ytmmmimkikakalaa

namespace Go.Proofs.Ytmmmimkikakalaa
open Go.RowKit
set_option linter.unusedVariables false

theorem ret_two {k : IntKind} {a a' : Int} {b b' : Bool} (h1 : a = a') (h2 : b = b') : Ending.returned (.tuple #[.int k a, .bool b]) = .returned (.tuple #[.int k a', .bool b']) := by rw [h1, h2]

set_option maxHeartbeats 2000000 in
set_option maxRecDepth 100000 in
theorem isSet_any (a : Option Addr) (cap : Nat) (xs : List (List UInt8)) (w : World) (hm : xs.length ≤ 1000000) (hin : IdsIn w a xs) :
    Calls Try.prog 48 #[.slice a xs.length cap] w fun e w' => e = .returned (.bool (isSetL xs)) ∧ Below w.heap.size w w' := by
  rcases hin.2 with rfl | ⟨b, off, rfl, hc⟩
  · clear hin
    simp only [List.length_nil]
    go_enter Try.func48, Try.ntmps48
    go_wp2_with fail
    go_loopg [6] 0 (fun g i wr => g = 0 ∧ i = .int .i64 0 ∧ wr = w)
    case atStart => exact ⟨rfl, rfl, rfl⟩
    case round =>
      obtain ⟨hg, rfl, rfl⟩ := hrel
      clear hg
      go_wp2
      go_ret
      exact ⟨rfl, Below.refl _ _⟩
  · exact isSet_cells b off cap xs w hm hin.1 hc

theorem fits_cells {w : World} {b : Nat} {cs : Array Value} {t : TypeId} {n : Nat} (h : w.heap[b]? = some (.cells cs t)) (hn : cs.size = n) : fits w ⟨b, 0, none⟩ n :=
  ⟨rfl, cs, t, (0, 0), h, by simp; omega⟩
theorem aggAt_cells {w : World} {b : Nat} {cs : Array Value} {t : TypeId} {n : Nat} (h : w.heap[b]? = some (.cells cs t)) (hn : cs.size = n) : aggAt w ⟨b, 0, none⟩ n = cs := by
  subst hn
  unfold aggAt; rw [show w.heap[(⟨b, 0, none⟩ : Addr).block]? = some (.cells cs t) from h]; simp

set_option maxHeartbeats 4000000 in
set_option maxRecDepth 100000 in
theorem place_any (a : Option Addr) (cap : Nat) (xs : List (List UInt8)) (x : List UInt8) (w : World) (hm : xs.length ≤ 1000000) (hin : IdsIn w a xs) (hx : x.length = 32) (hs : isSetL xs = true) :
    Calls Try.prog 59 #[.slice a xs.length cap, .agg (idB x)] w fun e w' => e = .returned (.tuple #[.int .i64 (placeN x xs), .bool (isAt x xs)]) ∧ Below w.heap.size w w' := by
  have hb0 := (Below.refl w.heap.size w).alloc (Nat.le_refl _) (.cells (idB x) 24)
  have hbx := (MapKept.heap_alloc w (.cells (idB x) 24)).1
  have HIN := Lib.hid hin
  have HS := Lib.hid hs
  clear hin hs
  go_enter Try.func59, Try.ntmps59
  go_upto_region 1 with fail
  obtain ⟨W, hW⟩ : ∃ W, W = w.alloc (.cells (idB x) 24) := ⟨_, rfl⟩
  rw [← hW] at hb0 hbx ⊢
  have HWs := Lib.hid (show W.heap.size = w.heap.size + 1 by rw [hW]; simp)
  clear hW
  have HB0 := Lib.hid hb0
  have HBX := Lib.hid hbx
  clear hb0 hbx
  go_wp2_with fail
  go_loopg [6, 7] xs.length (fun g lo hi wr => ∃ L H : Nat, g + L = H ∧ lo = .int .i64 L ∧ hi = .int .i64 H ∧ H ≤ xs.length ∧ (∀ j, j < L → cmpB (xs.getD j []) x < 0) ∧ (∀ j, H ≤ j → j < xs.length → 0 < cmpB (xs.getD j []) x) ∧ Below W.heap.size W wr)
  case atStart => exact ⟨0, xs.length, by omega, rfl, rfl, by omega, by omega, by omega, Below.refl _ _⟩
  case round =>
    obtain ⟨L, H, hg, rfl, rfl, hH, hlow, hhigh, hbw⟩ := hrel
    have HG := Lib.hid hg
    have HL := Lib.hid hlow
    have HH := Lib.hid hhigh
    have HBW := Lib.hid hbw
    have HB := Lib.hid (HB0.out.trans (hbw.mono (by rw [HWs.out]; omega)))
    clear hg hlow hhigh hbw
    by_cases hk : L < H
    · have HM : ∃ m : Nat, ((m : Nat) : Int) = (L : Int) + ((H : Int) - (L : Int)) / 2 ∧ L ≤ m ∧ m < H := ⟨L + (H - L) / 2, by omega, by omega, by omega⟩
      rcases HIN.out.2 with h | ⟨b, off, rfl, hc⟩
      · subst h; simp at hH; omega
      go_wp2_with fail
      obtain ⟨m, hm1, hm2, hm3⟩ := HM
      rw [← hm1]
      have HM1 := Lib.hid hm1
      clear hm1
      have hmx : m < xs.length := by omega
      obtain ⟨e1, e2⟩ := IdAt.below (hc m hmx) HB.out
      obtain ⟨e3, e4⟩ := IdAt.below (b := w.heap.size) (o := 0) (w' := wr) ⟨fits_cells HBX.out (by rw [idB_size, hx]), aggAt_cells HBX.out (by rw [idB_size, hx])⟩ HBW.out
      have hxm := HIN.out.1 _ (getD_mem hmx)
      have HF := Lib.hid (isAt_found x xs m HS.out hmx)
      have HLE := Lib.hid (fun j (h : j < m) => isSet_lt xs j m HS.out h hmx)
      have HGE := Lib.hid (fun j (h : m < j) => isSet_lt xs m j HS.out h)
      obtain ⟨y, hy⟩ : ∃ y, y = xs.getD m [] := ⟨_, rfl⟩
      rw [← hy] at e2 hxm HF HLE HGE
      have HY := Lib.hid hy.symm
      clear hy
      clear hc
      refine wp_region_specs [[], [], [0, 1], [2], [], [3, 4], [5]] [some 21, some 22, some 23, some 24, some 25, some 26, some 9] [0, 1, 2, 3, 4, 5, 6]
        (fun a b => Below a.heap.size a b)
        (fun k => [eqv (.slice (some ⟨b, off, none⟩) xs.length cap), eqv (.int .i64 m), eqv (.pointer (some ⟨b, off + m * 32, none⟩)), eqv (.agg (idB y)), eqv (.agg (idB x)), eqv (.int .i64 (cmpB y x)), eqv (.int .i64 (cmpB y x))].getD k anyv)
        (by kernel_rfl) (by kernel_rfl) (below_drewN (Below.refl _ _) 1) (fun a b c h1 h2 => h1.trans (h2.mono h1.size)) (Stables.get (by exact ⟨eqv_st _ _, eqv_st _ _, eqv_st _ _, eqv_st _ _, eqv_st _ _, eqv_st _ _, eqv_st _ _, trivial⟩)) ?_ ?_
      · refine ⟨?_, ?_, ?_, ?_, ?_, ?_, ?_, trivial⟩
        · intro vs w1 hr _ hd
          simp only [putL]
          clear hd 
          go_wp2
          exact ⟨rfl, rfl, Below.refl _ _, rfl⟩
        · intro vs w1 hr _ hd
          simp only [putL]
          clear hd 
          go_wp2
          exact ⟨rfl, rfl, Below.refl _ _, rfl⟩
        · intro vs w1 hr _ hd
          have h0 := hd.get 0 rfl
          change vs 0 = _ at h0
          have h1 := hd.get 1 rfl
          change vs 1 = _ at h1
          simp only [putL, h0, h1]
          clear hd h0 h1
          go_wp2
          exact ⟨rfl, rfl, Below.refl _ _, rfl⟩
        · intro vs w1 hr _ hd
          have h2 := hd.get 2 rfl
          change vs 2 = _ at h2
          have f1 := fits_of_block (a := ⟨b, off + m * 32, none⟩) (hr.block b e1.lt) e1
          have f2 := (aggAt_of_block (a := ⟨b, off + m * 32, none⟩) (n := 32) (hr.block b e1.lt)).trans e2
          simp only [putL, h2]
          clear hd h2
          go_wp2
          exact ⟨rfl, rfl, Below.refl _ _, rfl⟩
        · intro vs w1 hr _ hd
          have f1 := fits_of_block (a := ⟨w.heap.size, 0, none⟩) (hr.block w.heap.size e3.lt) e3
          have f2 := (aggAt_of_block (a := ⟨w.heap.size, 0, none⟩) (n := 32) (hr.block w.heap.size e3.lt)).trans e4
          simp only [putL]
          clear hd 
          go_wp2
          exact ⟨rfl, rfl, Below.refl _ _, rfl⟩
        · intro vs w1 hr _ hd
          have h3 := hd.get 3 rfl
          change vs 3 = _ at h3
          have h4 := hd.get 4 rfl
          change vs 4 = _ at h4
          simp only [putL, h3, h4]
          clear hd h3 h4
          go_wp2_with fail
          refine (compare_any y x hxm hx _).mono ?_
          rintro e w2 ⟨rfl, hb2⟩
          go_wp2
          exact ⟨rfl, rfl, hb2, rfl⟩
        · intro vs w1 hr _ hd
          have h5 := hd.get 5 rfl
          change vs 5 = _ at h5
          simp only [putL, h5]
          clear hd h5
          go_wp2
          exact ⟨rfl, rfl, Below.refl _ _, rfl⟩
      · intro vs w1 hr hd
        have h0 := hd.get 0 rfl
        change vs 0 = _ at h0
        have h1 := hd.get 1 rfl
        change vs 1 = _ at h1
        have h2 := hd.get 2 rfl
        change vs 2 = _ at h2
        have h3 := hd.get 3 rfl
        change vs 3 = _ at h3
        have h4 := hd.get 4 rfl
        change vs 4 = _ at h4
        have h5 := hd.get 5 rfl
        change vs 5 = _ at h5
        have h6 := hd.get 6 rfl
        change vs 6 = _ at h6
        simp only [putL, List.getD_cons_zero, List.getD_cons_succ, Act.put, List.setIfInBounds_toArray, List.set_cons_zero, List.set_cons_succ, h0, h1, h2, h3, h4, h5, h6]
        clear hd h0 h1 h2 h3 h4 h5 h6
        have HB2 := Lib.hid (HBW.out.trans (hr.mono HBW.out.size))
        have HCZ := Lib.hid (cmpB_zero y x)
        have HLT := Lib.hid (fun z (h : cmpB z y ≤ 0) => cmpB_trans z y x h)
        have HGT := Lib.hid (fun z (h1 : cmpB y z < 0) (h2 : 0 < cmpB y x) => (show 0 < cmpB z x by
          have t := (cmpB_trans x y z (by rw [cmpB_anti y x]; omega) (by omega)).2 (.inr h1)
          rw [cmpB_anti x z]; omega))
        have HYC := Lib.hid (show cmpB (xs.getD m []) x = cmpB y x by rw [HY.out])
        generalize cmpB y x = c at *
        by_cases h0 : c = 0
        · subst h0
          have HF1 := Lib.hid (HF.out rfl)
          clear HF
          go_wp2
          go_ret2
          exact ⟨ret_two (by rw [HF1.out.1]) HF1.out.2.symm, HB0.out.trans (HB2.out.mono (by rw [HWs.out]; omega))⟩
        by_cases h1 : c < 0
        · clear HF
          go_wp2
          go_roundg (H - (m + 1))
          case measure => have := HG.out; omega
          case rel =>
            refine ⟨m + 1, H, by omega, by go_num, rfl, hH, fun j hj => ?_, HH.out, HB2.out⟩
            by_cases hjm : j < m
            · exact (HLT.out _ (by have := HLE.out j hjm; omega) (by omega)).2 (.inr h1)
            · rw [show j = m by omega, HYC.out]; exact h1
        · clear HF
          go_wp2
          go_roundg (m - L)
          case measure => have := HG.out; omega
          case rel =>
            refine ⟨L, m, by omega, rfl, by go_num, by omega, HL.out, fun j hj hjx => ?_, HB2.out⟩
            by_cases hjm : m < j
            · exact HGT.out _ (HGE.out j hjm hjx) (by omega)
            · rw [show j = m by omega, HYC.out]; omega
    · have HE := Lib.hid (show L = H by have := HG.out; omega)
      go_wp2
      go_ret2
      obtain ⟨h1, h2⟩ := isAt_none x xs L (by have := HE.out; omega) HL.out (fun h => HH.out L (by have := HE.out; omega) h)
      exact ⟨ret_two (by rw [h1]) h2.symm, HB.out⟩

end Go.Proofs.Ytmmmimkikakalaa

namespace Go.Proofs.Ytmmmimkikakalaa
open Go.RowKit
set_option linter.unusedVariables false

/-- Find's answer. -/
def findN (x : List UInt8) (xs : List (List UInt8)) : Nat := if isSetL xs = true then placeN x xs else 0
def findB (x : List UInt8) (xs : List (List UInt8)) : Bool := isSetL xs && isAt x xs

end Go.Proofs.Ytmmmimkikakalaa

namespace Go.Proofs.Ytmmmimkikakalaa
open Go.RowKit
set_option linter.unusedVariables false

set_option maxHeartbeats 4000000 in
set_option maxRecDepth 100000 in
theorem same_any (a a' : Option Addr) (cap cap' : Nat) (xs ys : List (List UInt8)) (w : World) (hm : xs.length ≤ 1000000) (hm' : ys.length ≤ 1000000) (hin : IdsIn w a xs) (hin' : IdsIn w a' ys) :
    Calls Try.prog 13 #[.slice a xs.length cap, .slice a' ys.length cap'] w fun e w' => e = .returned (.bool (xs == ys)) ∧ Below w.heap.size w w' := by
  have HX := Lib.hid hin
  have HY := Lib.hid hin'
  clear hin hin'
  by_cases hlen : xs.length = ys.length
  case neg =>
    have hz : ¬ ((xs.length : Int) = (ys.length : Int)) := by omega
    have HZ := Lib.hid (show (xs == ys) = false from beq_eq_false_iff_ne.2 (fun e => hlen (by rw [e])))
    clear hlen
    go_enter Try.func13, Try.ntmps13
    go_wp2
    go_ret
    exact ⟨ret_bool HZ.out.symm, Below.refl _ _⟩
  have HLEN := Lib.hid hlen
  have hz : ((xs.length : Int) = (ys.length : Int)) := by omega
  clear hlen
  go_enter Try.func13, Try.ntmps13
  go_wp2_with fail
  go_loopg [5] xs.length (fun g i wr => ∃ k : Nat, g + k = xs.length ∧ i = .int .i64 k ∧ xs.take k = ys.take k ∧ Below w.heap.size w wr)
  case atStart => exact ⟨0, by omega, rfl, by simp, Below.refl _ _⟩
  case round =>
    obtain ⟨k, hg, rfl, hall, hbw⟩ := hrel
    have HG := Lib.hid hg
    have HA := Lib.hid hall
    have HB := Lib.hid hbw
    clear hg hall hbw
    by_cases hk : k < xs.length
    · rcases HX.out.2 with h | ⟨b, off, rfl, hc⟩
      · subst h; simp at hk
      rcases HY.out.2 with h | ⟨b', off', rfl, hc'⟩
      · subst h; exact absurd hk (by rw [HLEN.out]; simp)
      have hk' : k < ys.length := by have := HLEN.out; omega
      obtain ⟨e1, e2⟩ := IdAt.below (hc k hk) HB.out
      obtain ⟨e3, e4⟩ := IdAt.below (hc' k hk') HB.out
      clear hc hc'
      have hx := HX.out.1 _ (getD_mem hk)
      have hy := HY.out.1 _ (getD_mem hk')
      have HT := Lib.hid (show xs.getD k [] = ys.getD k [] → xs.take (k + 1) = ys.take (k + 1) from fun e => by rw [take_snoc [] xs k hk, take_snoc [] ys k hk', HA.out, e])
      have HN := Lib.hid (show ¬ xs.getD k [] = ys.getD k [] → (xs == ys) = false from fun e => beq_eq_false_iff_ne.2 (fun h => e (by rw [h])))
      obtain ⟨x, hxe⟩ : ∃ x, x = xs.getD k [] := ⟨_, rfl⟩
      obtain ⟨y, hye⟩ : ∃ y, y = ys.getD k [] := ⟨_, rfl⟩
      rw [← hxe] at e2 hx HT HN
      rw [← hye] at e4 hy HT HN
      clear hxe hye
      obtain ⟨q, hq⟩ : ∃ q : Bool, (x == y) = q := ⟨_, rfl⟩
      have HQ := Lib.hid hq
      clear hq
      go_wp2_with fail
      refine wp_region_specs [[], [], [0, 1], [2], [], [], [4, 5], [6], [3, 7]] [some 17, some 18, some 19, some 20, some 21, some 22, some 23, some 24, some 25] [0, 1, 2, 3, 4, 5, 6, 7, 8]
        (fun a b => Below a.heap.size a b)
        (fun ix_ => [eqv (.slice (some ⟨b, off, none⟩) xs.length cap), eqv (.int .i64 k), eqv (.pointer (some ⟨b, off + k * 32, none⟩)), eqv (.agg (idB x)), eqv (.slice (some ⟨b', off', none⟩) ys.length cap'), eqv (.int .i64 k), eqv (.pointer (some ⟨b', off' + k * 32, none⟩)), eqv (.agg (idB y)), eqv (.bool (!q))].getD ix_ anyv)
        (by kernel_rfl) (by kernel_rfl) (below_drewN (Below.refl _ _) 1) (fun a b c h1 h2 => h1.trans (h2.mono h1.size)) (Stables.get (by exact ⟨eqv_st _ _, eqv_st _ _, eqv_st _ _, eqv_st _ _, eqv_st _ _, eqv_st _ _, eqv_st _ _, eqv_st _ _, eqv_st _ _, trivial⟩)) ?_ ?_
      · refine ⟨?_, ?_, ?_, ?_, ?_, ?_, ?_, ?_, ?_, trivial⟩
        · intro vs w1 hr _ hd
          simp only [putL]
          clear hd 
          go_wp2
          exact ⟨rfl, rfl, Below.refl _ _, rfl⟩
        · intro vs w1 hr _ hd
          simp only [putL]
          clear hd 
          go_wp2
          exact ⟨rfl, rfl, Below.refl _ _, rfl⟩
        · intro vs w1 hr _ hd
          have h0 := hd.get 0 rfl
          change vs 0 = _ at h0
          have h1 := hd.get 1 rfl
          change vs 1 = _ at h1
          simp only [putL, h0, h1]
          clear hd h0 h1
          go_wp2
          exact ⟨rfl, rfl, Below.refl _ _, rfl⟩
        · intro vs w1 hr _ hd
          have h2 := hd.get 2 rfl
          change vs 2 = _ at h2
          have f1 := fits_of_block (a := ⟨b, off + k * 32, none⟩) (hr.block b e1.lt) e1
          have f2 := (aggAt_of_block (a := ⟨b, off + k * 32, none⟩) (n := 32) (hr.block b e1.lt)).trans e2
          simp only [putL, h2]
          clear hd h2
          go_wp2
          exact ⟨rfl, rfl, Below.refl _ _, rfl⟩
        · intro vs w1 hr _ hd
          simp only [putL]
          clear hd 
          go_wp2
          exact ⟨rfl, rfl, Below.refl _ _, rfl⟩
        · intro vs w1 hr _ hd
          simp only [putL]
          clear hd 
          go_wp2
          exact ⟨rfl, rfl, Below.refl _ _, rfl⟩
        · intro vs w1 hr _ hd
          have h4 := hd.get 4 rfl
          change vs 4 = _ at h4
          have h5 := hd.get 5 rfl
          change vs 5 = _ at h5
          simp only [putL, h4, h5]
          clear hd h4 h5
          go_wp2
          exact ⟨rfl, rfl, Below.refl _ _, rfl⟩
        · intro vs w1 hr _ hd
          have h6 := hd.get 6 rfl
          change vs 6 = _ at h6
          have f1 := fits_of_block (a := ⟨b', off' + k * 32, none⟩) (hr.block b' e3.lt) e3
          have f2 := (aggAt_of_block (a := ⟨b', off' + k * 32, none⟩) (n := 32) (hr.block b' e3.lt)).trans e4
          simp only [putL, h6]
          clear hd h6
          go_wp2
          exact ⟨rfl, rfl, Below.refl _ _, rfl⟩
        · intro vs w1 hr _ hd
          have h3 := hd.get 3 rfl
          change vs 3 = _ at h3
          have h7 := hd.get 7 rfl
          change vs 7 = _ at h7
          simp only [putL, h3, h7]
          clear hd h3 h7
          go_wp2
          exact ⟨rfl, rfl, Below.refl _ _, congrArg Value.bool (congrArg (fun z => !z) HQ.out)⟩
      · intro vs w1 hr hd
        have h0 := hd.get 0 rfl
        change vs 0 = _ at h0
        have h1 := hd.get 1 rfl
        change vs 1 = _ at h1
        have h2 := hd.get 2 rfl
        change vs 2 = _ at h2
        have h3 := hd.get 3 rfl
        change vs 3 = _ at h3
        have h4 := hd.get 4 rfl
        change vs 4 = _ at h4
        have h5 := hd.get 5 rfl
        change vs 5 = _ at h5
        have h6 := hd.get 6 rfl
        change vs 6 = _ at h6
        have h7 := hd.get 7 rfl
        change vs 7 = _ at h7
        have h8 := hd.get 8 rfl
        change vs 8 = _ at h8
        simp only [putL, List.getD_cons_zero, List.getD_cons_succ, Act.put, List.setIfInBounds_toArray, List.set_cons_zero, List.set_cons_succ, h0, h1, h2, h3, h4, h5, h6, h7, h8]
        clear hd h0 h1 h2 h3 h4 h5 h6 h7 h8
        have HB2 := Lib.hid (HB.out.trans (hr.mono HB.out.size))
        clear hr
        by_cases hxy : x = y
        · have HT2 := Lib.hid (HT.out hxy)
          have hb : q = true := by rw [← HQ.out, hxy]; exact beq_self_eq_true _
          clear HT HN HQ
          subst hb
          go_wp2
          go_roundg (gk - 1)
          case measure => have := HG.out; omega
          case rel => exact ⟨k + 1, by have := HG.out; omega, by go_num, HT2.out, HB2.out⟩
        · have HN2 := Lib.hid (HN.out hxy)
          have hb : q = false := by rw [← HQ.out]; exact beq_eq_false_iff_ne.2 hxy
          clear HT HN HQ
          subst hb
          go_wp2
          go_ret
          exact ⟨ret_bool HN2.out.symm, HB2.out⟩
    · have HE := Lib.hid (show k = xs.length by have := HG.out; omega)
      go_wp2
      go_ret
      have ha := HA.out
      rw [HE.out, List.take_length, HLEN.out, List.take_length] at ha
      exact ⟨ret_bool (by rw [ha]; exact (beq_self_eq_true _).symm), HB.out⟩

end Go.Proofs.Ytmmmimkikakalaa
