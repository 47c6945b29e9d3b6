/- Lists of ids in memory; IsSet, the reference's IsSet. -/
import Derived.Test.YtmmmimkikakalaaE
namespace Go.Proofs.Ytmmmimkikakalaa
open Go.RowKit
set_option linter.unusedVariables false

/-- A slice's ids, as its cells hold them. -/
def IdsIn (w : World) (a : Option Addr) (xs : List (List UInt8)) : Prop :=
  (∀ x ∈ xs, x.length = 32) ∧ (xs = [] ∨ ∃ b off, a = some ⟨b, off, none⟩ ∧ ∀ i, i < xs.length → fits w ⟨b, off + i * 32, none⟩ 32 ∧ aggAt w ⟨b, off + i * 32, none⟩ 32 = idB (xs.getD i []))

theorem IdsIn.below {w w' : World} {a : Option Addr} {xs : List (List UInt8)} (h : IdsIn w a xs) (hb : Below w.heap.size w w') : IdsIn w' a xs := by
  refine ⟨h.1, ?_⟩
  rcases h.2 with h | ⟨b, off, ha, hc⟩
  · exact .inl h
  · refine .inr ⟨b, off, ha, fun i hi => ?_⟩
    obtain ⟨h1, h2⟩ := hc i hi
    have e := hb.block b h1.lt
    exact ⟨fits_of_block (a := ⟨b, off + i * 32, none⟩) e h1, (aggAt_of_block (a := ⟨b, off + i * 32, none⟩) e).trans h2⟩

/-- Rising, each once. -/
def isSetL : List (List UInt8) → Bool
  | a :: b :: l => decide (Lib.compareBytes a b < 0) && isSetL (b :: l)
  | _ => true

theorem getD_mem {xs : List (List UInt8)} {i : Nat} (h : i < xs.length) : xs.getD i [] ∈ xs := by
  simp only [List.getD_eq_getElem?_getD, List.getElem?_eq_getElem h, Option.getD_some]
  exact List.getElem_mem h

theorem IdAt.below {w w' : World} {b o : Nat} {c : Array Value} (h : fits w ⟨b, o, none⟩ 32 ∧ aggAt w ⟨b, o, none⟩ 32 = c) (hb : Below w.heap.size w w') : fits w' ⟨b, o, none⟩ 32 ∧ aggAt w' ⟨b, o, none⟩ 32 = c :=
  ⟨fits_of_block (a := ⟨b, o, none⟩) (hb.block b h.1.lt) h.1, (aggAt_of_block (a := ⟨b, o, none⟩) (hb.block b h.1.lt)).trans h.2⟩

theorem isSet_take : ∀ (xs : List (List UInt8)) (k : Nat), isSetL xs = true → isSetL (xs.take k) = true
  | [], k, _ => by simp [isSetL]
  | [a], k, _ => by cases k <;> simp [isSetL]
  | a :: b :: l, 0, _ => by simp [isSetL]
  | a :: b :: l, 1, _ => by simp [isSetL]
  | a :: b :: l, k + 2, h => by
    have h' := h
    simp only [isSetL, Bool.and_eq_true] at h'
    have := isSet_take (b :: l) (k + 1) h'.2
    simp only [List.take_succ_cons] at this ⊢
    simp only [isSetL, Bool.and_eq_true]
    exact ⟨h'.1, this⟩
theorem isSet_two : ∀ (xs : List (List UInt8)) (j : Nat), j + 1 < xs.length → isSetL (xs.take (j + 2)) = (isSetL (xs.take (j + 1)) && decide (Lib.compareBytes (xs.getD j []) (xs.getD (j + 1) []) < 0))
  | [], j, h => by simp at h
  | [a], j, h => by simp at h
  | a :: b :: l, 0, h => by simp [isSetL]
  | a :: b :: l, j + 1, h => by
    have := isSet_two (b :: l) j (by simpa using h)
    simp only [List.take_succ_cons] at this ⊢
    simp only [isSetL, this, List.getD_cons_succ, Bool.and_assoc]
theorem isSet_snoc (xs : List (List UInt8)) (j : Nat) (h : j + 1 < xs.length) :
    isSetL (xs.take (j + 2)) = (isSetL (xs.take (j + 1)) && decide (Lib.compareBytes (xs.getD j []) (xs.getD (j + 1) []) < 0)) ∧
    (0 ≤ Lib.compareBytes (xs.getD j []) (xs.getD (j + 1) []) → isSetL xs = false) := by
  refine ⟨isSet_two xs j h, fun hc => ?_⟩
  cases hs : isSetL xs with
  | false => rfl
  | true =>
    have h2 := isSet_take xs (j + 2) hs
    rw [isSet_two xs j h] at h2
    simp only [Bool.and_eq_true, decide_eq_true_eq] at h2
    omega

set_option maxHeartbeats 2000000 in
set_option maxRecDepth 100000 in
theorem isSet_cells (b off cap : Nat) (xs : List (List UInt8)) (w : World) (hm : xs.length ≤ 1000000) (hl : ∀ x ∈ xs, x.length = 32)
    (hc : ∀ i, i < xs.length → fits w ⟨b, off + i * 32, none⟩ 32 ∧ aggAt w ⟨b, off + i * 32, none⟩ 32 = idB (xs.getD i [])) :
    Calls Try.prog 48 #[.slice (some ⟨b, off, none⟩) xs.length cap] w fun e w' => e = .returned (.bool (isSetL xs)) ∧ Below w.heap.size w w' := by
  have HC := Lib.hid hc
  have HL := Lib.hid hl
  clear hc hl
  go_enter Try.func48, Try.ntmps48
  go_wp2_with fail
  go_loopg [6] xs.length (fun g i wr => ∃ k : Nat, g + k = xs.length ∧ i = .int .i64 k ∧ isSetL (xs.take k) = true ∧ Below w.heap.size w wr)
  case atStart => exact ⟨0, by omega, rfl, by simp [isSetL], Below.refl _ _⟩
  case round =>
    obtain ⟨k, hg, rfl, hall, hbw⟩ := hrel
    have HG := Lib.hid hg
    have HA := Lib.hid hall
    clear hg hall
    by_cases hk : k < xs.length
    · by_cases h0 : k = 0
      · subst h0
        go_wp2_with fail
        refine wp_region_specs [[], [0], [1], [2], [2], [2, 4], [2, 3, 5], [2, 6], [2], [2], [2, 8, 9], [2, 10], [2, 7, 11], [2, 12], [2, 13]] [some 9, some 10, some 11, some 12, some 13, some 14, some 15, some 16, some 17, some 18, some 19, some 20, some 21, some 22, some 23] [0, 1, 2, 3, 4, 5, 6, 7, 8, 9, 10, 11, 12, 13, 14]
          (fun a b => Below a.heap.size a b)
          (fun k => [eqv (.int .i64 ((0 : Nat) : Int)), eqv (.bool false), eqv (.bool false), eqv (undef), eqv (undef), eqv (undef), eqv (undef), eqv (undef), eqv (undef), eqv (undef), eqv (undef), eqv (undef), eqv (undef), eqv (undef), eqv (.bool false)].getD k anyv)
          (by kernel_rfl) (by kernel_rfl) (below_drewN (Below.refl _ _) 1) (fun a b c h1 h2 => h1.trans (h2.mono h1.size)) (Stables.get (by exact ⟨eqv_st _ _, eqv_st _ _, eqv_st _ _, eqv_st _ _, eqv_st _ _, eqv_st _ _, eqv_st _ _, eqv_st _ _, eqv_st _ _, eqv_st _ _, eqv_st _ _, eqv_st _ _, eqv_st _ _, eqv_st _ _, eqv_st _ _, trivial⟩)) ?_ ?_
        · refine ⟨?_, ?_, ?_, ?_, ?_, ?_, ?_, ?_, ?_, ?_, ?_, ?_, ?_, ?_, ?_, trivial⟩
          · intro vs w1 hr _ hd
            simp only [putL]
            clear hd 
            go_wp2
            exact ⟨rfl, rfl, Below.refl _ _, rfl⟩
          · intro vs w1 hr _ hd
            have h0 := hd.get 0 rfl
            change vs 0 = _ at h0
            simp only [putL, h0]
            clear hd h0
            go_wp2
            exact ⟨rfl, rfl, Below.refl _ _, rfl⟩
          · intro vs w1 hr _ hd
            have h1 := hd.get 1 rfl
            change vs 1 = _ at h1
            simp only [putL, h1]
            clear hd h1
            go_wp2
            exact ⟨rfl, rfl, Below.refl _ _, rfl⟩
          · intro vs w1 hr _ hd
            have h2 := hd.get 2 rfl
            change vs 2 = _ at h2
            simp only [putL, h2]
            clear hd h2
            go_wp2
            exact ⟨rfl, rfl, Below.refl _ _, rfl⟩
          · intro vs w1 hr _ hd
            have h2 := hd.get 2 rfl
            change vs 2 = _ at h2
            simp only [putL, h2]
            clear hd h2
            go_wp2
            exact ⟨rfl, rfl, Below.refl _ _, rfl⟩
          · intro vs w1 hr _ hd
            have h2 := hd.get 2 rfl
            change vs 2 = _ at h2
            have h4 := hd.get 4 rfl
            change vs 4 = _ at h4
            simp only [putL, h2, h4]
            clear hd h2 h4
            go_wp2
            exact ⟨rfl, rfl, Below.refl _ _, rfl⟩
          · intro vs w1 hr _ hd
            have h2 := hd.get 2 rfl
            change vs 2 = _ at h2
            have h3 := hd.get 3 rfl
            change vs 3 = _ at h3
            have h5 := hd.get 5 rfl
            change vs 5 = _ at h5
            simp only [putL, h2, h3, h5]
            clear hd h2 h3 h5
            go_wp2
            exact ⟨rfl, rfl, Below.refl _ _, rfl⟩
          · intro vs w1 hr _ hd
            have h2 := hd.get 2 rfl
            change vs 2 = _ at h2
            have h6 := hd.get 6 rfl
            change vs 6 = _ at h6
            simp only [putL, h2, h6]
            clear hd h2 h6
            go_wp2
            exact ⟨rfl, rfl, Below.refl _ _, rfl⟩
          · intro vs w1 hr _ hd
            have h2 := hd.get 2 rfl
            change vs 2 = _ at h2
            simp only [putL, h2]
            clear hd h2
            go_wp2
            exact ⟨rfl, rfl, Below.refl _ _, rfl⟩
          · intro vs w1 hr _ hd
            have h2 := hd.get 2 rfl
            change vs 2 = _ at h2
            simp only [putL, h2]
            clear hd h2
            go_wp2
            exact ⟨rfl, rfl, Below.refl _ _, rfl⟩
          · intro vs w1 hr _ hd
            have h2 := hd.get 2 rfl
            change vs 2 = _ at h2
            have h8 := hd.get 8 rfl
            change vs 8 = _ at h8
            have h9 := hd.get 9 rfl
            change vs 9 = _ at h9
            simp only [putL, h2, h8, h9]
            clear hd h2 h8 h9
            go_wp2
            exact ⟨rfl, rfl, Below.refl _ _, rfl⟩
          · intro vs w1 hr _ hd
            have h2 := hd.get 2 rfl
            change vs 2 = _ at h2
            have h10 := hd.get 10 rfl
            change vs 10 = _ at h10
            simp only [putL, h2, h10]
            clear hd h2 h10
            go_wp2
            exact ⟨rfl, rfl, Below.refl _ _, rfl⟩
          · intro vs w1 hr _ hd
            have h2 := hd.get 2 rfl
            change vs 2 = _ at h2
            have h7 := hd.get 7 rfl
            change vs 7 = _ at h7
            have h11 := hd.get 11 rfl
            change vs 11 = _ at h11
            simp only [putL, h2, h7, h11]
            clear hd h2 h7 h11
            go_wp2
            exact ⟨rfl, rfl, Below.refl _ _, rfl⟩
          · intro vs w1 hr _ hd
            have h2 := hd.get 2 rfl
            change vs 2 = _ at h2
            have h12 := hd.get 12 rfl
            change vs 12 = _ at h12
            simp only [putL, h2, h12]
            clear hd h2 h12
            go_wp2
            exact ⟨rfl, rfl, Below.refl _ _, rfl⟩
          · intro vs w1 hr _ hd
            have h2 := hd.get 2 rfl
            change vs 2 = _ at h2
            have h13 := hd.get 13 rfl
            change vs 13 = _ at h13
            simp only [putL, h2, h13]
            clear hd h2 h13
            go_wp2
            exact ⟨rfl, rfl, Below.refl _ _, rfl⟩
        · intro vs w1 hr hd
          have h0 := hd.get 0 rfl
          change vs 0 = _ at h0
          have h1 := hd.get 1 rfl
          change vs 1 = _ at h1
          have h2 := hd.get 2 rfl
          change vs 2 = _ at h2
          have h3 := hd.get 3 rfl
          change vs 3 = _ at h3
          have h4 := hd.get 4 rfl
          change vs 4 = _ at h4
          have h5 := hd.get 5 rfl
          change vs 5 = _ at h5
          have h6 := hd.get 6 rfl
          change vs 6 = _ at h6
          have h7 := hd.get 7 rfl
          change vs 7 = _ at h7
          have h8 := hd.get 8 rfl
          change vs 8 = _ at h8
          have h9 := hd.get 9 rfl
          change vs 9 = _ at h9
          have h10 := hd.get 10 rfl
          change vs 10 = _ at h10
          have h11 := hd.get 11 rfl
          change vs 11 = _ at h11
          have h12 := hd.get 12 rfl
          change vs 12 = _ at h12
          have h13 := hd.get 13 rfl
          change vs 13 = _ at h13
          have h14 := hd.get 14 rfl
          change vs 14 = _ at h14
          simp only [putL, List.getD_cons_zero, List.getD_cons_succ, Act.put, List.setIfInBounds_toArray, List.set_cons_zero, List.set_cons_succ, h0, h1, h2, h3, h4, h5, h6, h7, h8, h9, h10, h11, h12, h13, h14]
          clear hd h0 h1 h2 h3 h4 h5 h6 h7 h8 h9 h10 h11 h12 h13 h14
          go_wp2
          go_roundg (gk - 1)
          case measure => have := HG.out; omega
          case rel => exact ⟨1, by have := HG.out; omega, by go_num, by cases xs <;> simp [isSetL], hbw.trans (hr.mono hbw.size)⟩
      · obtain ⟨j, rfl⟩ : ∃ j, k = j + 1 := ⟨k - 1, by omega⟩
        go_wp2_with fail
        obtain ⟨e1, e2⟩ := IdAt.below (HC.out j (by omega)) hbw
        obtain ⟨e3, e4⟩ := IdAt.below (HC.out (j + 1) hk) hbw
        have hx := HL.out _ (getD_mem (by omega : j < xs.length))
        have hy := HL.out _ (getD_mem hk)
        have HT := Lib.hid (isSet_snoc xs j hk)
        generalize xs.getD j [] = x at *
        generalize xs.getD (j + 1) [] = y at *
        refine wp_region_specs [[], [0], [1], [2], [2], [2, 4], [2, 3, 5], [2, 6], [2], [2], [2, 8, 9], [2, 10], [2, 7, 11], [2, 12], [2, 13]] [some 9, some 10, some 11, some 12, some 13, some 14, some 15, some 16, some 17, some 18, some 19, some 20, some 21, some 22, some 23] [0, 1, 2, 3, 4, 5, 6, 7, 8, 9, 10, 11, 12, 13, 14]
          (fun a b => Below a.heap.size a b)
          (fun k => [eqv (.int .i64 ((j + 1 : Nat) : Int)), eqv (.bool true), eqv (.bool true), eqv (.slice (some ⟨b, off, none⟩) xs.length cap), eqv (.int .i64 ((j + 1 : Nat) : Int)), eqv (.int .i64 j), eqv (.pointer (some ⟨b, off + j * 32, none⟩)), eqv (.agg (idB x)), eqv (.slice (some ⟨b, off, none⟩) xs.length cap), eqv (.int .i64 ((j + 1 : Nat) : Int)), eqv (.pointer (some ⟨b, off + (j + 1) * 32, none⟩)), eqv (.agg (idB y)), eqv (.int .i64 (Lib.compareBytes x y)), eqv (.bool (decide (0 ≤ Lib.compareBytes x y))), eqv (.bool (decide (0 ≤ Lib.compareBytes x y)))].getD k anyv)
          (by kernel_rfl) (by kernel_rfl) (below_drewN (Below.refl _ _) 1) (fun a b c h1 h2 => h1.trans (h2.mono h1.size)) (Stables.get (by exact ⟨eqv_st _ _, eqv_st _ _, eqv_st _ _, eqv_st _ _, eqv_st _ _, eqv_st _ _, eqv_st _ _, eqv_st _ _, eqv_st _ _, eqv_st _ _, eqv_st _ _, eqv_st _ _, eqv_st _ _, eqv_st _ _, eqv_st _ _, trivial⟩)) ?_ ?_
        · refine ⟨?_, ?_, ?_, ?_, ?_, ?_, ?_, ?_, ?_, ?_, ?_, ?_, ?_, ?_, ?_, trivial⟩
          · intro vs w1 hr _ hd
            simp only [putL]
            clear hd 
            go_wp2
            exact ⟨rfl, rfl, Below.refl _ _, rfl⟩
          · intro vs w1 hr _ hd
            have h0 := hd.get 0 rfl
            change vs 0 = _ at h0
            simp only [putL, h0]
            clear hd h0
            go_wp2
            exact ⟨rfl, rfl, Below.refl _ _, rfl⟩
          · intro vs w1 hr _ hd
            have h1 := hd.get 1 rfl
            change vs 1 = _ at h1
            simp only [putL, h1]
            clear hd h1
            go_wp2
            exact ⟨rfl, rfl, Below.refl _ _, rfl⟩
          · intro vs w1 hr _ hd
            have h2 := hd.get 2 rfl
            change vs 2 = _ at h2
            simp only [putL, h2]
            clear hd h2
            go_wp2
            exact ⟨rfl, rfl, Below.refl _ _, rfl⟩
          · intro vs w1 hr _ hd
            have h2 := hd.get 2 rfl
            change vs 2 = _ at h2
            simp only [putL, h2]
            clear hd h2
            go_wp2
            exact ⟨rfl, rfl, Below.refl _ _, rfl⟩
          · intro vs w1 hr _ hd
            have h2 := hd.get 2 rfl
            change vs 2 = _ at h2
            have h4 := hd.get 4 rfl
            change vs 4 = _ at h4
            simp only [putL, h2, h4]
            clear hd h2 h4
            go_wp2
            exact ⟨rfl, rfl, Below.refl _ _, congrArg (Value.int .i64) (by omega)⟩
          · intro vs w1 hr _ hd
            have h2 := hd.get 2 rfl
            change vs 2 = _ at h2
            have h3 := hd.get 3 rfl
            change vs 3 = _ at h3
            have h5 := hd.get 5 rfl
            change vs 5 = _ at h5
            simp only [putL, h2, h3, h5]
            clear hd h2 h3 h5
            go_wp2
            exact ⟨rfl, rfl, Below.refl _ _, rfl⟩
          · intro vs w1 hr _ hd
            have h2 := hd.get 2 rfl
            change vs 2 = _ at h2
            have h6 := hd.get 6 rfl
            change vs 6 = _ at h6
            have f1 := fits_of_block (a := ⟨b, off + j * 32, none⟩) (hr.block b e1.lt) e1
            have f2 := (aggAt_of_block (a := ⟨b, off + j * 32, none⟩) (n := 32) (hr.block b e1.lt)).trans e2
            simp only [putL, h2, h6]
            clear hd h2 h6
            go_wp2
            exact ⟨rfl, rfl, Below.refl _ _, rfl⟩
          · intro vs w1 hr _ hd
            have h2 := hd.get 2 rfl
            change vs 2 = _ at h2
            simp only [putL, h2]
            clear hd h2
            go_wp2
            exact ⟨rfl, rfl, Below.refl _ _, rfl⟩
          · intro vs w1 hr _ hd
            have h2 := hd.get 2 rfl
            change vs 2 = _ at h2
            simp only [putL, h2]
            clear hd h2
            go_wp2
            exact ⟨rfl, rfl, Below.refl _ _, rfl⟩
          · intro vs w1 hr _ hd
            have h2 := hd.get 2 rfl
            change vs 2 = _ at h2
            have h8 := hd.get 8 rfl
            change vs 8 = _ at h8
            have h9 := hd.get 9 rfl
            change vs 9 = _ at h9
            simp only [putL, h2, h8, h9]
            clear hd h2 h8 h9
            go_wp2
            exact ⟨rfl, rfl, Below.refl _ _, rfl⟩
          · intro vs w1 hr _ hd
            have h2 := hd.get 2 rfl
            change vs 2 = _ at h2
            have h10 := hd.get 10 rfl
            change vs 10 = _ at h10
            have f1 := fits_of_block (a := ⟨b, off + (j + 1) * 32, none⟩) (hr.block b e3.lt) e3
            have f2 := (aggAt_of_block (a := ⟨b, off + (j + 1) * 32, none⟩) (n := 32) (hr.block b e3.lt)).trans e4
            simp only [putL, h2, h10]
            clear hd h2 h10
            go_wp2
            exact ⟨rfl, rfl, Below.refl _ _, rfl⟩
          · intro vs w1 hr _ hd
            have h2 := hd.get 2 rfl
            change vs 2 = _ at h2
            have h7 := hd.get 7 rfl
            change vs 7 = _ at h7
            have h11 := hd.get 11 rfl
            change vs 11 = _ at h11
            simp only [putL, h2, h7, h11]
            clear hd h2 h7 h11
            go_wp2_with fail
            refine (compare_any x y hx hy _).mono ?_
            rintro e w2 ⟨rfl, hb2⟩
            go_wp2
            exact ⟨rfl, rfl, hb2, rfl⟩
          · intro vs w1 hr _ hd
            have h2 := hd.get 2 rfl
            change vs 2 = _ at h2
            have h12 := hd.get 12 rfl
            change vs 12 = _ at h12
            simp only [putL, h2, h12]
            clear hd h2 h12
            go_wp2
            exact ⟨rfl, rfl, Below.refl _ _, rfl⟩
          · intro vs w1 hr _ hd
            have h2 := hd.get 2 rfl
            change vs 2 = _ at h2
            have h13 := hd.get 13 rfl
            change vs 13 = _ at h13
            simp only [putL, h2, h13]
            clear hd h2 h13
            go_wp2
            exact ⟨rfl, rfl, Below.refl _ _, rfl⟩
        · intro vs w1 hr hd
          have h0 := hd.get 0 rfl
          change vs 0 = _ at h0
          have h1 := hd.get 1 rfl
          change vs 1 = _ at h1
          have h2 := hd.get 2 rfl
          change vs 2 = _ at h2
          have h3 := hd.get 3 rfl
          change vs 3 = _ at h3
          have h4 := hd.get 4 rfl
          change vs 4 = _ at h4
          have h5 := hd.get 5 rfl
          change vs 5 = _ at h5
          have h6 := hd.get 6 rfl
          change vs 6 = _ at h6
          have h7 := hd.get 7 rfl
          change vs 7 = _ at h7
          have h8 := hd.get 8 rfl
          change vs 8 = _ at h8
          have h9 := hd.get 9 rfl
          change vs 9 = _ at h9
          have h10 := hd.get 10 rfl
          change vs 10 = _ at h10
          have h11 := hd.get 11 rfl
          change vs 11 = _ at h11
          have h12 := hd.get 12 rfl
          change vs 12 = _ at h12
          have h13 := hd.get 13 rfl
          change vs 13 = _ at h13
          have h14 := hd.get 14 rfl
          change vs 14 = _ at h14
          simp only [putL, List.getD_cons_zero, List.getD_cons_succ, Act.put, List.setIfInBounds_toArray, List.set_cons_zero, List.set_cons_succ, h0, h1, h2, h3, h4, h5, h6, h7, h8, h9, h10, h11, h12, h13, h14]
          clear hd h0 h1 h2 h3 h4 h5 h6 h7 h8 h9 h10 h11 h12 h13 h14
          have hbw2 := hbw.trans (hr.mono hbw.size)
          generalize Lib.compareBytes x y = c at *
          by_cases hneg : 0 ≤ c
          · go_wp2
            go_ret
            exact ⟨ret_bool (HT.out.2 hneg).symm, hbw2⟩
          · go_wp2
            go_roundg (gk - 1)
            case measure => have := HG.out; omega
            case rel => exact ⟨j + 1 + 1, by have := HG.out; omega, by go_num, by rw [HT.out.1]; simp [HA.out]; omega, hbw2⟩
    · have hke := Lib.hid (show k = xs.length by have := HG.out; omega)
      go_wp2
      go_ret
      have ha := HA.out
      rw [hke.out, List.take_length] at ha
      exact ⟨ret_bool ha.symm, hbw⟩

end Go.Proofs.Ytmmmimkikakalaa
