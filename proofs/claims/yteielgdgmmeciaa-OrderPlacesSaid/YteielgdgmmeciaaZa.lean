/- awake. -/
import Derived.Test.YteielgdgmmeciaaOw
namespace Go.Proofs.Yteielgdgmmeciaa
open Go.RowKit
set_option linter.unusedVariables false

theorem run_exec_build1 {P : Program} {t : TypeId} {cells : Array Value} (a : Act) (v : Value) (dst : Option Tmp) (ty' : TypeId) (pos : String) (after : Array Edge) (guard : Option (Nat × Bool)) (w : World)
    (h : P.built t [(0, v)] = some cells) : (execOp a.eval ⟨dst, .build t #[(0, .const v)], ty', pos, after, guard⟩).run P w = .ok (.value (.agg cells)) w :=
  run_exec_build a.eval _ dst ty' pos after guard w (by simpa [Act.eval] using h)
@[go_sem ↓] theorem bld1 (a : Act) (dst : Option Tmp) (ty' : TypeId) (pos : String) (after : Array Edge) (guard : Option (Nat × Bool)) (w : World) :
    (execOp a.eval ⟨dst, .build 23 #[(0, .const (.int .u8 1))], ty', pos, after, guard⟩).run Try.prog w = .ok (.value (.agg (idB (oneId 1)))) w := run_exec_build1 a (.int .u8 1) dst ty' pos after guard w (show Try.prog.built 23 [(0, .int .u8 1)] = some (idB (oneId 1)) by kernel_rfl)
@[go_sem ↓] theorem bld2 (a : Act) (dst : Option Tmp) (ty' : TypeId) (pos : String) (after : Array Edge) (guard : Option (Nat × Bool)) (w : World) :
    (execOp a.eval ⟨dst, .build 23 #[(0, .const (.int .u8 2))], ty', pos, after, guard⟩).run Try.prog w = .ok (.value (.agg (idB (oneId 2)))) w := run_exec_build1 a (.int .u8 2) dst ty' pos after guard w (show Try.prog.built 23 [(0, .int .u8 2)] = some (idB (oneId 2)) by kernel_rfl)
@[go_sem ↓] theorem bld3 (a : Act) (dst : Option Tmp) (ty' : TypeId) (pos : String) (after : Array Edge) (guard : Option (Nat × Bool)) (w : World) :
    (execOp a.eval ⟨dst, .build 23 #[(0, .const (.int .u8 3))], ty', pos, after, guard⟩).run Try.prog w = .ok (.value (.agg (idB (oneId 3)))) w := run_exec_build1 a (.int .u8 3) dst ty' pos after guard w (show Try.prog.built 23 [(0, .int .u8 3)] = some (idB (oneId 3)) by kernel_rfl)
def zeroId : List UInt8 := List.replicate 32 0
@[go_sem ↓] theorem bldk2 (a : Act) (dst : Option Tmp) (ty' : TypeId) (pos : String) (after : Array Edge) (guard : Option (Nat × Bool)) (w : World) :
    (execOp a.eval ⟨dst, .build 25 #[(0, .const (.int .i64 2))], ty', pos, after, guard⟩).run Try.prog w = .ok (.value (.agg (keyB 2 zeroId 0))) w := run_exec_build1 a (.int .i64 2) dst ty' pos after guard w (show Try.prog.built 25 [(0, .int .i64 2)] = some (keyB 2 zeroId 0) by kernel_rfl)
@[go_sem ↓] theorem bldk1 (a : Act) (dst : Option Tmp) (ty' : TypeId) (pos : String) (after : Array Edge) (guard : Option (Nat × Bool)) (w : World) :
    (execOp a.eval ⟨dst, .build 25 #[(0, .const (.int .i64 1))], ty', pos, after, guard⟩).run Try.prog w = .ok (.value (.agg (keyB 1 zeroId 0))) w := run_exec_build1 a (.int .i64 1) dst ty' pos after guard w (show Try.prog.built 25 [(0, .int .i64 1)] = some (keyB 1 zeroId 0) by kernel_rfl)

theorem run_exec_build30 (f : Operand → Value) (n : Nat) (parts : Array (Nat × Operand)) (xs : List (List UInt8)) (dst : Option Tmp) (ty' : TypeId) (pos : String) (after : Array Edge) (guard : Option (Nat × Bool)) (w : World)
    (hx : ∀ x ∈ xs, x.length = 32) (hn : xs.length = n) (hpos : 0 < n) (hsm : n ≤ 1000) (hp : (parts.map fun (i, x) => (i, f x)).toList = idParts 0 xs) :
    (execOp f ⟨dst, .buildSlice 30 n parts, ty', pos, after, guard⟩).run Try.prog w = .ok (.value (.slice (some ⟨w.heap.size, 0, none⟩) n n)) (w.alloc (.cells (idsC xs).toArray 23)) := by
  have hi := info23
  cases hq : Try.prog.info? 23 with
  | none => rw [hq] at hi; cases hi
  | some i =>
    rw [hq] at hi
    simp only [Option.map_some, Option.some.injEq, Prod.mk.injEq] at hi
    obtain ⟨hz0, hz1, hz2⟩ := hi
    unfold execOp
    have hr := run_buildSlice (P := Try.prog) w 30 23 n (parts.map fun (i, x) => (i, f x)) (idsC xs).toArray i _ Try.underlying30 hq hz0 (by rw [hz1]; omega) (by rw [hz1]; omega) (by
      have := fill_ids xs 0 ((Array.range (n * 32)).map (fun j => (Value.agg (Array.replicate 32 (.int .u8 0))).cells[j % (Value.agg (Array.replicate 32 (.int .u8 0))).cells.size]!)).toList hx (by simp; omega)
      rw [Array.toArray_toList] at this
      rw [hz1, hp]
      exact this.trans (by simp))
    simp only [Sem.run_bind, hr, Result.andThen_ok]
    rfl

def idOf : Value → List UInt8 := fun v => ((aggOf v).toList.map fun c => match c with | .int _ n => UInt8.ofNat n.toNat | _ => 0)
theorem idOf_idB (x : List UInt8) : idOf (.agg (idB x)) = x := by
  simp only [idOf, aggOf_agg, idB, Lib.byteCells, List.map_map]
  conv => rhs; rw [← List.map_id x]
  apply List.map_congr_left
  intro c _
  simp
theorem idOk_of {v : Value} (h : idOk v) : v = .agg (idB (idOf v)) ∧ (idOf v).length = 32 := by
  obtain ⟨x, rfl, hl⟩ := h
  rw [idOf_idB]; exact ⟨rfl, hl⟩
@[go_sem ↓] theorem build30_2 (f : Operand → Value) (x y : Operand) (dst : Option Tmp) (ty' : TypeId) (pos : String) (after : Array Edge) (guard : Option (Nat × Bool)) (w : World) (h1 : idOk (f x)) (h2 : idOk (f y)) :
    (execOp f ⟨dst, .buildSlice 30 2 #[(0, x), (1, y)], ty', pos, after, guard⟩).run Try.prog w = .ok (.value (.slice (some ⟨w.heap.size, 0, none⟩) 2 2)) (w.alloc (.cells (idsC [idOf (f x), idOf (f y)]).toArray 23)) := by
  obtain ⟨e1, l1⟩ := idOk_of h1
  obtain ⟨e2, l2⟩ := idOk_of h2
  exact run_exec_build30 f 2 _ [idOf (f x), idOf (f y)] dst ty' pos after guard w (by simp [l1, l2]) rfl (by decide) (by decide) (by simp [idParts, ← e1, ← e2])
@[go_sem ↓] theorem build30_3 (f : Operand → Value) (x y z : Operand) (dst : Option Tmp) (ty' : TypeId) (pos : String) (after : Array Edge) (guard : Option (Nat × Bool)) (w : World) (h1 : idOk (f x)) (h2 : idOk (f y)) (h3 : idOk (f z)) :
    (execOp f ⟨dst, .buildSlice 30 3 #[(0, x), (1, y), (2, z)], ty', pos, after, guard⟩).run Try.prog w = .ok (.value (.slice (some ⟨w.heap.size, 0, none⟩) 3 3)) (w.alloc (.cells (idsC [idOf (f x), idOf (f y), idOf (f z)]).toArray 23)) := by
  obtain ⟨e1, l1⟩ := idOk_of h1
  obtain ⟨e2, l2⟩ := idOk_of h2
  obtain ⟨e3, l3⟩ := idOk_of h3
  exact run_exec_build30 f 3 _ [idOf (f x), idOf (f y), idOf (f z)] dst ty' pos after guard w (by simp [l1, l2, l3]) rfl (by decide) (by decide) (by simp [idParts, ← e1, ← e2, ← e3])
attribute [go_sem] idOf_idB

theorem ids_new (w : World) (xs : List (List UInt8)) (hx : ∀ x ∈ xs, x.length = 32) : IdsIn (w.alloc (.cells (idsC xs).toArray 23)) (some ⟨w.heap.size, 0, none⟩) xs := by
  refine ⟨hx, ?_⟩
  by_cases h0 : xs = []
  · exact .inl h0
  refine .inr ⟨_, 0, rfl, fun i hi => ?_⟩
  have hh := (MapKept.heap_alloc w (.cells (idsC xs).toArray 23)).1
  have hs : (idsC xs).toArray.size = xs.length * 32 := by simp [idsC_length xs hx]
  refine ⟨⟨rfl, _, _, _, hh, by rw [hs]; simp; omega⟩, ?_⟩
  unfold aggAt
  rw [show (w.alloc (.cells (idsC xs).toArray 23)).heap[(⟨w.heap.size, 0 + i * 32, none⟩ : Addr).block]? = some (.cells (idsC xs).toArray 23) from hh]
  have hcur := idsC_at xs i hx hi
  apply Array.ext'
  simp only [Array.toList_extract, List.extract_eq_take_drop, idB]
  rw [← hcur, show 0 + i * 32 + 32 - (0 + i * 32) = 32 by omega, Nat.zero_add]

/-- A slice of ids with room for no more. -/
def slF (xs : List (List UInt8)) : Value → World → Prop := fun v w => ∃ g, v = .slice (some ⟨g, 0, none⟩) xs.length xs.length ∧ IdsIn w (some ⟨g, 0, none⟩) xs
theorem slF_st (xs : List (List UInt8)) : ∀ v w w', slF xs v w → Below w.heap.size w w' → slF xs v w' := fun _ _ _ ⟨g, h1, h2⟩ hb => ⟨g, h1, h2.below hb⟩
theorem slI_st (xs : List (List UInt8)) : ∀ v w w', (fun v w => SlI w v xs) v w → Below w.heap.size w w' → (fun v w => SlI w v xs) v w' := fun _ _ _ h hb => SlI_below h hb

theorem setL_ex : setL [oneId 2, oneId 1, oneId 2] = [oneId 1, oneId 2] := by
  unfold setL
  have h : msort [oneId 2, oneId 1, oneId 2] = [oneId 1, oneId 2, oneId 2] := by
    refine List.Perm.eq_of_pairwise (le := fun a b => leB a b = true) (fun a b _ _ h1 h2 => leB_anti a b h1 h2) (msort_sorted _) ?_ ((msort_perm _).trans ?_)
    · simp only [List.pairwise_cons]; decide
    · exact List.Perm.swap _ _ _
  rw [h]
  decide

set_option maxHeartbeats 2000000 in
set_option maxRecDepth 100000 in
theorem awake_any (w : World) : Calls Try.prog 15 #[] w fun e w' => e = .returned (.bool true) ∧ Below w.heap.size w w' := by
  have l1 := oneId_32 1
  have l2 := oneId_32 2
  have l3 := oneId_32 3
  have lz : zeroId.length = 32 := by simp [zeroId]
  have HF := Lib.hid (show findN (oneId 2) [oneId 1, oneId 3] = 1 ∧ findB (oneId 2) [oneId 1, oneId 3] = false by decide)
  have HC := Lib.hid (show Lib.compareBytes (oneId 1) (oneId 2) = -1 by decide)
  have HK := Lib.hid (show keysCmp 2 zeroId 0 1 zeroId 0 = 1 by decide)
  have HS := Lib.hid setL_ex
  go_enter Try.func15, Try.ntmps15
  go_upto_region 2 with fail
  have l12 : ∀ x ∈ [oneId 1, oneId 2], x.length = 32 := by simp [l1, l2]
  have l13 : ∀ x ∈ [oneId 1, oneId 3], x.length = 32 := by simp [l1, l3]
  have l212 : ∀ x ∈ [oneId 2, oneId 1, oneId 2], x.length = 32 := by simp [l1, l2]
  have L12 := Lib.hid l12
  have L13 := Lib.hid l13
  have L212 := Lib.hid l212
  clear l12 l13 l212
  obtain ⟨W, hW⟩ : ∃ W, W = ((w.alloc (.cells (idB (oneId 1)) 23)).alloc (.cells (idB (oneId 2)) 23)).alloc (.cells (idB (oneId 3)) 23) := ⟨_, rfl⟩
  have e1 := fits_new w (idB (oneId 1)) 23 32 (by rw [idB_size, l1])
  have e2 := aggAt_new w (idB (oneId 1)) 23 32 (by rw [idB_size, l1])
  have e3 := fits_new (w.alloc (.cells (idB (oneId 1)) 23)) (idB (oneId 2)) 23 32 (by rw [idB_size, l2])
  have e4 := aggAt_new (w.alloc (.cells (idB (oneId 1)) 23)) (idB (oneId 2)) 23 32 (by rw [idB_size, l2])
  have e5 := fits_new ((w.alloc (.cells (idB (oneId 1)) 23)).alloc (.cells (idB (oneId 2)) 23)) (idB (oneId 3)) 23 32 (by rw [idB_size, l3])
  have e6 := aggAt_new ((w.alloc (.cells (idB (oneId 1)) 23)).alloc (.cells (idB (oneId 2)) 23)) (idB (oneId 3)) 23 32 (by rw [idB_size, l3])
  have d1 := fits_alloc _ (.cells (idB (oneId 3)) 23) _ _ (fits_alloc _ (.cells (idB (oneId 2)) 23) _ _ e1)
  have d2 := (agg_alloc _ (.cells (idB (oneId 3)) 23) _ _ (fits_alloc _ (.cells (idB (oneId 2)) 23) _ _ e1)).trans ((agg_alloc _ (.cells (idB (oneId 2)) 23) _ _ e1).trans e2)
  have d3 := fits_alloc _ (.cells (idB (oneId 3)) 23) _ _ e3
  have d4 := (agg_alloc _ (.cells (idB (oneId 3)) 23) _ _ e3).trans e4
  have hb0 := (((Below.refl w.heap.size w).alloc (Nat.le_refl _) (.cells (idB (oneId 1)) 23)).alloc (by simp) (.cells (idB (oneId 2)) 23)).alloc (by simp; omega) (.cells (idB (oneId 3)) 23)
  simp only [World.size_alloc] at e5 e6 d3 d4
  rw [← hW] at d1 d2 d3 d4 e5 e6 hb0 ⊢
  have HB := Lib.hid hb0
  clear hW e1 e2 e3 e4 hb0
  have N1 := Lib.hid (ids_new W [oneId 1, oneId 3] L13.out)
  have B1 := Lib.hid ((Below.refl W.heap.size W).alloc (Nat.le_refl _) (.cells (idsC [oneId 1, oneId 3]).toArray 23))
  go_wp2_with fail
  refine (find_any (some ⟨W.heap.size, 0, none⟩) 2 [oneId 1, oneId 3] (oneId 2) _ (by decide) N1.out l2).mono ?_
  rintro e w1 ⟨rfl, hb1⟩
  rw [HF.out.1, HF.out.2]
  obtain ⟨x0, rfl⟩ := ov_of (w := W) (B1.out.trans (hb1.mono B1.out.size))
  clear hb1
  have HB1 := Lib.hid (HB.out.trans ((ov_below W x0).mono HB.out.size))
  have c1 := fits_ov W x0 _ _ d1
  have c2 := (agg_ov W x0 _ _ d1).trans d2
  have c3 := fits_ov W x0 _ _ d3
  have c4 := (agg_ov W x0 _ _ d3).trans d4
  clear d1 d2 d3 d4 e5 e6 N1 B1
  go_upto_region 3 with fail
  generalize ov W x0 = W at *
  apply wp_region_specsL [[], [], [], [0, 1, 2], [3], [], [], [5, 6], [4, 7], [8], [9], [9, 10], [9, 11], [12], [13], [13, 14], [13, 15], [16], [17], [17], [17, 18, 19], [17, 20], [17, 21], [22], [23], [23], [23, 24, 25], [23, 26], [23, 27], [28]] [some 17, some 18, some 19, some 20, some 21, some 22, some 23, some 24, some 25, some 26, some 27, some 28, some 29, some 30, some 31, some 32, some 33, some 34, some 35, some 36, some 37, some 38, some 39, some 40, some 41, some 42, some 43, some 44, some 45, some 0] [0, 1, 2, 3, 4, 5, 6, 7, 8, 9, 10, 11, 12, 13, 14, 15, 16, 17, 18, 19, 20, 21, 22, 23, 24, 25, 26, 27, 28, 29]
    [eqv _, eqv _, eqv _, slF [oneId 2, oneId 1, oneId 2], (fun v w => SlI w v [oneId 1, oneId 2]), eqv _, eqv _, slF [oneId 1, oneId 2], eqv _, eqv _, eqv _, eqv _, eqv _, eqv _, eqv _, eqv _, eqv _, eqv _, eqv _, eqv _, eqv _, eqv _, eqv _, eqv _, eqv _, eqv _, eqv _, eqv _, eqv _, eqv _]
  case hm => kernel_rfl
  case hok => kernel_rfl
  case hop =>
    refine ⟨?_, ?_, ?_, ?_, ?_, ?_, ?_, ?_, ?_, ?_, ?_, ?_, ?_, ?_, ?_, ?_, ?_, ?_, ?_, ?_, ?_, ?_, ?_, ?_, ?_, ?_, ?_, ?_, ?_, ?_, trivial⟩
    · intro vs w1 hr _ hd
      obtain ⟨x1, rfl⟩ := ov_of hr
      clear hr
      simp only [putL]
      clear hd 
      go_wp2
      exact opEnds_mk rfl rfl rfl (Below.refl _ _) rfl
    · intro vs w1 hr _ hd
      obtain ⟨x1, rfl⟩ := ov_of hr
      clear hr
      simp only [putL]
      clear hd 
      go_wp2
      exact opEnds_mk rfl rfl rfl (Below.refl _ _) rfl
    · intro vs w1 hr _ hd
      obtain ⟨x1, rfl⟩ := ov_of hr
      clear hr
      simp only [putL]
      clear hd 
      go_wp2
      exact opEnds_mk rfl rfl rfl (Below.refl _ _) rfl
    · intro vs w1 hr _ hd
      obtain ⟨x1, rfl⟩ := ov_of hr
      clear hr
      have h0 := hd.get 0 rfl
      change vs 0 = _ at h0
      have h1 := hd.get 1 rfl
      change vs 1 = _ at h1
      have h2 := hd.get 2 rfl
      change vs 2 = _ at h2
      have N := Lib.hid (ids_new (ov W x1) [oneId 2, oneId 1, oneId 2] L212.out)
      simp only [putL, h0, h1, h2]
      clear hd h0 h1 h2
      go_wp2
      exact opEnds_mk rfl rfl rfl ((Below.refl _ _).alloc (Nat.le_refl _) _) ⟨_, rfl, N.out⟩
    · intro vs w1 hr _ hd
      obtain ⟨x1, rfl⟩ := ov_of hr
      clear hr
      have h3 := hd.get 3 rfl
      obtain ⟨g3, e3, i3⟩ := h3
      simp only [List.length_cons, List.length_nil] at e3
      have hI := Lib.hid i3
      clear i3
      simp only [putL, e3]
      clear hd e3
      go_wp2_with fail
      refine (set_any (some ⟨g3, 0, none⟩) 3 [oneId 2, oneId 1, oneId 2] _ (by decide) (by unfold maxLen; decide) (by decide) hI.out (fun e => by cases e)).mono ?_
      rintro e w2 ⟨v, rfl, ho, hb2⟩
      have hsl := Lib.hid (SlI_row (by rw [HS.out]; exact L12.out) ho)
      rw [HS.out] at hsl
      clear ho
      go_wp2
      exact opEnds_mk rfl rfl rfl hb2 hsl.out
    · intro vs w1 hr _ hd
      obtain ⟨x1, rfl⟩ := ov_of hr
      clear hr
      simp only [putL]
      clear hd 
      go_wp2
      exact opEnds_mk rfl rfl rfl (Below.refl _ _) rfl
    · intro vs w1 hr _ hd
      obtain ⟨x1, rfl⟩ := ov_of hr
      clear hr
      simp only [putL]
      clear hd 
      go_wp2
      exact opEnds_mk rfl rfl rfl (Below.refl _ _) rfl
    · intro vs w1 hr _ hd
      obtain ⟨x1, rfl⟩ := ov_of hr
      clear hr
      have h5 := hd.get 5 rfl
      change vs 5 = _ at h5
      have h6 := hd.get 6 rfl
      change vs 6 = _ at h6
      have N := Lib.hid (ids_new (ov W x1) [oneId 1, oneId 2] L12.out)
      simp only [putL, h5, h6]
      clear hd h5 h6
      go_wp2
      exact opEnds_mk rfl rfl rfl ((Below.refl _ _).alloc (Nat.le_refl _) _) ⟨_, rfl, N.out⟩
    · intro vs w1 hr _ hd
      obtain ⟨x1, rfl⟩ := ov_of hr
      clear hr
      have h4 := hd.get 4 rfl
      obtain ⟨a4, k4, e4, p4, q4, i4, n4⟩ := h4
      simp only [List.length_cons, List.length_nil] at e4
      have h7 := hd.get 7 rfl
      obtain ⟨g7, e7, i7⟩ := h7
      simp only [List.length_cons, List.length_nil] at e7
      have hI4 := Lib.hid i4
      have hI7 := Lib.hid i7
      clear i4 i7 n4 p4 q4
      simp only [putL, e4, e7]
      clear hd e4 e7
      go_wp2_with fail
      refine (same_any a4 (some ⟨g7, 0, none⟩) k4 2 [oneId 1, oneId 2] [oneId 1, oneId 2] _ (by decide) (by decide) hI4.out hI7.out).mono ?_
      rintro e w2 ⟨rfl, hb2⟩
      rw [show ([oneId 1, oneId 2] == [oneId 1, oneId 2]) = true from by decide]
      go_wp2
      exact opEnds_mk rfl rfl rfl (hb2) rfl
    · intro vs w1 hr _ hd
      obtain ⟨x1, rfl⟩ := ov_of hr
      clear hr
      have h8 := hd.get 8 rfl
      change vs 8 = _ at h8
      simp only [putL, h8]
      clear hd h8
      go_wp2
      exact opEnds_mk rfl rfl rfl (Below.refl _ _) rfl
    · intro vs w1 hr _ hd
      obtain ⟨x1, rfl⟩ := ov_of hr
      clear hr
      have h9 := hd.get 9 rfl
      change vs 9 = _ at h9
      simp only [putL, h9]
      clear hd h9
      go_wp2
      exact opEnds_mk rfl rfl rfl (Below.refl _ _) rfl
    · intro vs w1 hr _ hd
      obtain ⟨x1, rfl⟩ := ov_of hr
      clear hr
      have h9 := hd.get 9 rfl
      change vs 9 = _ at h9
      have h10 := hd.get 10 rfl
      change vs 10 = _ at h10
      simp only [putL, h9, h10]
      clear hd h9 h10
      go_wp2
      exact opEnds_mk rfl rfl rfl (Below.refl _ _) rfl
    · intro vs w1 hr _ hd
      obtain ⟨x1, rfl⟩ := ov_of hr
      clear hr
      have h9 := hd.get 9 rfl
      change vs 9 = _ at h9
      have h11 := hd.get 11 rfl
      change vs 11 = _ at h11
      simp only [putL, h9, h11]
      clear hd h9 h11
      go_wp2
      exact opEnds_mk rfl rfl rfl (Below.refl _ _) rfl
    · intro vs w1 hr _ hd
      obtain ⟨x1, rfl⟩ := ov_of hr
      clear hr
      have h12 := hd.get 12 rfl
      change vs 12 = _ at h12
      simp only [putL, h12]
      clear hd h12
      go_wp2
      exact opEnds_mk rfl rfl rfl (Below.refl _ _) rfl
    · intro vs w1 hr _ hd
      obtain ⟨x1, rfl⟩ := ov_of hr
      clear hr
      have h13 := hd.get 13 rfl
      change vs 13 = _ at h13
      simp only [putL, h13]
      clear hd h13
      go_wp2
      exact opEnds_mk rfl rfl rfl (Below.refl _ _) rfl
    · intro vs w1 hr _ hd
      obtain ⟨x1, rfl⟩ := ov_of hr
      clear hr
      have h13 := hd.get 13 rfl
      change vs 13 = _ at h13
      have h14 := hd.get 14 rfl
      change vs 14 = _ at h14
      simp only [putL, h13, h14]
      clear hd h13 h14
      go_wp2
      exact opEnds_mk rfl rfl rfl (Below.refl _ _) rfl
    · intro vs w1 hr _ hd
      obtain ⟨x1, rfl⟩ := ov_of hr
      clear hr
      have h13 := hd.get 13 rfl
      change vs 13 = _ at h13
      have h15 := hd.get 15 rfl
      change vs 15 = _ at h15
      simp only [putL, h13, h15]
      clear hd h13 h15
      go_wp2
      exact opEnds_mk rfl rfl rfl (Below.refl _ _) rfl
    · intro vs w1 hr _ hd
      obtain ⟨x1, rfl⟩ := ov_of hr
      clear hr
      have h16 := hd.get 16 rfl
      change vs 16 = _ at h16
      simp only [putL, h16]
      clear hd h16
      go_wp2
      exact opEnds_mk rfl rfl rfl (Below.refl _ _) rfl
    · intro vs w1 hr _ hd
      obtain ⟨x1, rfl⟩ := ov_of hr
      clear hr
      have h17 := hd.get 17 rfl
      change vs 17 = _ at h17
      simp only [putL, h17]
      clear hd h17
      go_wp2
      exact opEnds_mk rfl rfl rfl (Below.refl _ _) rfl
    · intro vs w1 hr _ hd
      obtain ⟨x1, rfl⟩ := ov_of hr
      clear hr
      have h17 := hd.get 17 rfl
      change vs 17 = _ at h17
      simp only [putL, h17]
      clear hd h17
      go_wp2
      exact opEnds_mk rfl rfl rfl (Below.refl _ _) rfl
    · intro vs w1 hr _ hd
      obtain ⟨x1, rfl⟩ := ov_of hr
      clear hr
      have h17 := hd.get 17 rfl
      change vs 17 = _ at h17
      have h18 := hd.get 18 rfl
      change vs 18 = _ at h18
      have h19 := hd.get 19 rfl
      change vs 19 = _ at h19
      simp only [putL, h17, h18, h19]
      clear hd h17 h18 h19
      go_wp2_with fail
      refine (compare_any (oneId 1) (oneId 2) l1 l2 _).mono ?_
      rintro e w2 ⟨rfl, hb2⟩
      rw [HC.out]
      go_wp2
      exact opEnds_mk rfl rfl rfl (hb2) rfl
    · intro vs w1 hr _ hd
      obtain ⟨x1, rfl⟩ := ov_of hr
      clear hr
      have h17 := hd.get 17 rfl
      change vs 17 = _ at h17
      have h20 := hd.get 20 rfl
      change vs 20 = _ at h20
      simp only [putL, h17, h20]
      clear hd h17 h20
      go_wp2
      exact opEnds_mk rfl rfl rfl (Below.refl _ _) rfl
    · intro vs w1 hr _ hd
      obtain ⟨x1, rfl⟩ := ov_of hr
      clear hr
      have h17 := hd.get 17 rfl
      change vs 17 = _ at h17
      have h21 := hd.get 21 rfl
      change vs 21 = _ at h21
      simp only [putL, h17, h21]
      clear hd h17 h21
      go_wp2
      exact opEnds_mk rfl rfl rfl (Below.refl _ _) rfl
    · intro vs w1 hr _ hd
      obtain ⟨x1, rfl⟩ := ov_of hr
      clear hr
      have h22 := hd.get 22 rfl
      change vs 22 = _ at h22
      simp only [putL, h22]
      clear hd h22
      go_wp2
      exact opEnds_mk rfl rfl rfl (Below.refl _ _) rfl
    · intro vs w1 hr _ hd
      obtain ⟨x1, rfl⟩ := ov_of hr
      clear hr
      have h23 := hd.get 23 rfl
      change vs 23 = _ at h23
      simp only [putL, h23]
      clear hd h23
      go_wp2
      exact opEnds_mk rfl rfl rfl (Below.refl _ _) rfl
    · intro vs w1 hr _ hd
      obtain ⟨x1, rfl⟩ := ov_of hr
      clear hr
      have h23 := hd.get 23 rfl
      change vs 23 = _ at h23
      simp only [putL, h23]
      clear hd h23
      go_wp2
      exact opEnds_mk rfl rfl rfl (Below.refl _ _) rfl
    · intro vs w1 hr _ hd
      obtain ⟨x1, rfl⟩ := ov_of hr
      clear hr
      have h23 := hd.get 23 rfl
      change vs 23 = _ at h23
      have h24 := hd.get 24 rfl
      change vs 24 = _ at h24
      have h25 := hd.get 25 rfl
      change vs 25 = _ at h25
      simp only [putL, h23, h24, h25]
      clear hd h23 h24 h25
      go_wp2_with fail
      refine (keys_any 2 zeroId 0 1 zeroId 0 lz lz _).mono ?_
      rintro e w2 ⟨rfl, hb2⟩
      rw [HK.out]
      go_wp2
      exact opEnds_mk rfl rfl rfl (hb2) rfl
    · intro vs w1 hr _ hd
      obtain ⟨x1, rfl⟩ := ov_of hr
      clear hr
      have h23 := hd.get 23 rfl
      change vs 23 = _ at h23
      have h26 := hd.get 26 rfl
      change vs 26 = _ at h26
      simp only [putL, h23, h26]
      clear hd h23 h26
      go_wp2
      exact opEnds_mk rfl rfl rfl (Below.refl _ _) rfl
    · intro vs w1 hr _ hd
      obtain ⟨x1, rfl⟩ := ov_of hr
      clear hr
      have h23 := hd.get 23 rfl
      change vs 23 = _ at h23
      have h27 := hd.get 27 rfl
      change vs 27 = _ at h27
      simp only [putL, h23, h27]
      clear hd h23 h27
      go_wp2
      exact opEnds_mk rfl rfl rfl (Below.refl _ _) rfl
    · intro vs w1 hr _ hd
      obtain ⟨x1, rfl⟩ := ov_of hr
      clear hr
      have h28 := hd.get 28 rfl
      change vs 28 = _ at h28
      simp only [putL, h28]
      clear hd h28
      go_wp2
      exact opEnds_mk rfl rfl rfl (Below.refl _ _) rfl
  case hst => exact ⟨eqv_st _ _, eqv_st _ _, eqv_st _ _, slF_st _, slI_st _, eqv_st _ _, eqv_st _ _, slF_st _, eqv_st _ _, eqv_st _ _, eqv_st _ _, eqv_st _ _, eqv_st _ _, eqv_st _ _, eqv_st _ _, eqv_st _ _, eqv_st _ _, eqv_st _ _, eqv_st _ _, eqv_st _ _, eqv_st _ _, eqv_st _ _, eqv_st _ _, eqv_st _ _, eqv_st _ _, eqv_st _ _, eqv_st _ _, eqv_st _ _, eqv_st _ _, eqv_st _ _, trivial⟩
  case hend =>
    intro vs w1 hr hd
    have h0 := hd.get 0 rfl
    change vs 0 = _ at h0
    have h1 := hd.get 1 rfl
    change vs 1 = _ at h1
    have h2 := hd.get 2 rfl
    change vs 2 = _ at h2
    have h3 := hd.get 3 rfl
    have h4 := hd.get 4 rfl
    have h5 := hd.get 5 rfl
    change vs 5 = _ at h5
    have h6 := hd.get 6 rfl
    change vs 6 = _ at h6
    have h7 := hd.get 7 rfl
    have h8 := hd.get 8 rfl
    change vs 8 = _ at h8
    have h9 := hd.get 9 rfl
    change vs 9 = _ at h9
    have h10 := hd.get 10 rfl
    change vs 10 = _ at h10
    have h11 := hd.get 11 rfl
    change vs 11 = _ at h11
    have h12 := hd.get 12 rfl
    change vs 12 = _ at h12
    have h13 := hd.get 13 rfl
    change vs 13 = _ at h13
    have h14 := hd.get 14 rfl
    change vs 14 = _ at h14
    have h15 := hd.get 15 rfl
    change vs 15 = _ at h15
    have h16 := hd.get 16 rfl
    change vs 16 = _ at h16
    have h17 := hd.get 17 rfl
    change vs 17 = _ at h17
    have h18 := hd.get 18 rfl
    change vs 18 = _ at h18
    have h19 := hd.get 19 rfl
    change vs 19 = _ at h19
    have h20 := hd.get 20 rfl
    change vs 20 = _ at h20
    have h21 := hd.get 21 rfl
    change vs 21 = _ at h21
    have h22 := hd.get 22 rfl
    change vs 22 = _ at h22
    have h23 := hd.get 23 rfl
    change vs 23 = _ at h23
    have h24 := hd.get 24 rfl
    change vs 24 = _ at h24
    have h25 := hd.get 25 rfl
    change vs 25 = _ at h25
    have h26 := hd.get 26 rfl
    change vs 26 = _ at h26
    have h27 := hd.get 27 rfl
    change vs 27 = _ at h27
    have h28 := hd.get 28 rfl
    change vs 28 = _ at h28
    have h29 := hd.get 29 rfl
    change vs 29 = _ at h29
    obtain ⟨x1, rfl⟩ := ov_of hr
    simp only [putL, List.getD_cons_zero, List.getD_cons_succ, Act.put, List.setIfInBounds_toArray, List.set_cons_zero, List.set_cons_succ, h0, h1, h2, h5, h6, h8, h9, h10, h11, h12, h13, h14, h15, h16, h17, h18, h19, h20, h21, h22, h23, h24, h25, h26, h27, h28, h29]
    clear hd hr h0 h1 h2 h5 h6 h8 h9 h10 h11 h12 h13 h14 h15 h16 h17 h18 h19 h20 h21 h22 h23 h24 h25 h26 h27 h28 h29
    have HB2 := Lib.hid (HB1.out.trans ((ov_below W x1).mono HB1.out.size))
    go_wp2
    go_ret
    exact ⟨rfl, HB2.out⟩

end Go.Proofs.Yteielgdgmmeciaa
