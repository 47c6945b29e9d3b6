/- awake. -/
import Derived.Test.YtmmmimkikakalaaOw
namespace Go.Proofs.Ytmmmimkikakalaa
open Go.RowKit
set_option linter.unusedVariables false

theorem run_exec_build1 {P : Program} {t : TypeId} {cells : Array Value} (a : Act) (v : Value) (dst : Option Tmp) (ty' : TypeId) (pos : String) (after : Array Edge) (guard : Option (Nat × Bool)) (w : World)
    (h : P.built t [(0, v)] = some cells) : (execOp a.eval ⟨dst, .build t #[(0, .const v)], ty', pos, after, guard⟩).run P w = .ok (.value (.agg cells)) w :=
  run_exec_build a.eval _ dst ty' pos after guard w (by simpa [Act.eval] using h)
@[go_sem ↓] theorem bld1 (a : Act) (dst : Option Tmp) (ty' : TypeId) (pos : String) (after : Array Edge) (guard : Option (Nat × Bool)) (w : World) :
    (execOp a.eval ⟨dst, .build 24 #[(0, .const (.int .u8 1))], ty', pos, after, guard⟩).run Try.prog w = .ok (.value (.agg (idB (oneId 1)))) w := run_exec_build1 a (.int .u8 1) dst ty' pos after guard w (show Try.prog.built 24 [(0, .int .u8 1)] = some (idB (oneId 1)) by kernel_rfl)
@[go_sem ↓] theorem bld2 (a : Act) (dst : Option Tmp) (ty' : TypeId) (pos : String) (after : Array Edge) (guard : Option (Nat × Bool)) (w : World) :
    (execOp a.eval ⟨dst, .build 24 #[(0, .const (.int .u8 2))], ty', pos, after, guard⟩).run Try.prog w = .ok (.value (.agg (idB (oneId 2)))) w := run_exec_build1 a (.int .u8 2) dst ty' pos after guard w (show Try.prog.built 24 [(0, .int .u8 2)] = some (idB (oneId 2)) by kernel_rfl)
@[go_sem ↓] theorem bld3 (a : Act) (dst : Option Tmp) (ty' : TypeId) (pos : String) (after : Array Edge) (guard : Option (Nat × Bool)) (w : World) :
    (execOp a.eval ⟨dst, .build 24 #[(0, .const (.int .u8 3))], ty', pos, after, guard⟩).run Try.prog w = .ok (.value (.agg (idB (oneId 3)))) w := run_exec_build1 a (.int .u8 3) dst ty' pos after guard w (show Try.prog.built 24 [(0, .int .u8 3)] = some (idB (oneId 3)) by kernel_rfl)
def zeroId : List UInt8 := List.replicate 32 0
theorem run_exec_build30 (f : Operand → Value) (n : Nat) (parts : Array (Nat × Operand)) (xs : List (List UInt8)) (dst : Option Tmp) (ty' : TypeId) (pos : String) (after : Array Edge) (guard : Option (Nat × Bool)) (w : World)
    (hx : ∀ x ∈ xs, x.length = 32) (hn : xs.length = n) (hpos : 0 < n) (hsm : n ≤ 1000) (hp : (parts.map fun (i, x) => (i, f x)).toList = idParts 0 xs) :
    (execOp f ⟨dst, .buildSlice 30 n parts, ty', pos, after, guard⟩).run Try.prog w = .ok (.value (.slice (some ⟨w.heap.size, 0, none⟩) n n)) (w.alloc (.cells (idsC xs).toArray 24)) := by
  have hi := info23
  cases hq : Try.prog.info? 24 with
  | none => rw [hq] at hi; cases hi
  | some i =>
    rw [hq] at hi
    simp only [Option.map_some, Option.some.injEq, Prod.mk.injEq] at hi
    obtain ⟨hz0, hz1, hz2⟩ := hi
    unfold execOp
    have hr := run_buildSlice (P := Try.prog) w 30 24 n (parts.map fun (i, x) => (i, f x)) (idsC xs).toArray i _ Try.underlying30 hq hz0 (by rw [hz1]; omega) (by rw [hz1]; omega) (by
      have := fill_ids xs 0 ((Array.range (n * 32)).map (fun j => (Value.agg (Array.replicate 32 (.int .u8 0))).cells[j % (Value.agg (Array.replicate 32 (.int .u8 0))).cells.size]!)).toList hx (by simp; omega)
      rw [Array.toArray_toList] at this
      rw [hz1, hp]
      exact this.trans (by simp))
    simp only [Sem.run_bind, hr, Result.andThen_ok]
    rfl

def idOf : Value → List UInt8 := fun v => ((aggOf v).toList.map fun c => match c with | .int _ n => UInt8.ofNat n.toNat | _ => 0)
theorem idOf_idB (x : List UInt8) : idOf (.agg (idB x)) = x := by
  simp only [idOf, aggOf_agg, idB, Lib.byteCells, List.map_map]
  conv => rhs; rw [← List.map_id x]
  apply List.map_congr_left
  intro c _
  simp
theorem idOk_of {v : Value} (h : idOk v) : v = .agg (idB (idOf v)) ∧ (idOf v).length = 32 := by
  obtain ⟨x, rfl, hl⟩ := h
  rw [idOf_idB]; exact ⟨rfl, hl⟩
@[go_sem ↓] theorem build30_2 (f : Operand → Value) (x y : Operand) (dst : Option Tmp) (ty' : TypeId) (pos : String) (after : Array Edge) (guard : Option (Nat × Bool)) (w : World) (h1 : idOk (f x)) (h2 : idOk (f y)) :
    (execOp f ⟨dst, .buildSlice 30 2 #[(0, x), (1, y)], ty', pos, after, guard⟩).run Try.prog w = .ok (.value (.slice (some ⟨w.heap.size, 0, none⟩) 2 2)) (w.alloc (.cells (idsC [idOf (f x), idOf (f y)]).toArray 24)) := by
  obtain ⟨e1, l1⟩ := idOk_of h1
  obtain ⟨e2, l2⟩ := idOk_of h2
  exact run_exec_build30 f 2 _ [idOf (f x), idOf (f y)] dst ty' pos after guard w (by simp [l1, l2]) rfl (by decide) (by decide) (by simp [idParts, ← e1, ← e2])
@[go_sem ↓] theorem build30_3 (f : Operand → Value) (x y z : Operand) (dst : Option Tmp) (ty' : TypeId) (pos : String) (after : Array Edge) (guard : Option (Nat × Bool)) (w : World) (h1 : idOk (f x)) (h2 : idOk (f y)) (h3 : idOk (f z)) :
    (execOp f ⟨dst, .buildSlice 30 3 #[(0, x), (1, y), (2, z)], ty', pos, after, guard⟩).run Try.prog w = .ok (.value (.slice (some ⟨w.heap.size, 0, none⟩) 3 3)) (w.alloc (.cells (idsC [idOf (f x), idOf (f y), idOf (f z)]).toArray 24)) := by
  obtain ⟨e1, l1⟩ := idOk_of h1
  obtain ⟨e2, l2⟩ := idOk_of h2
  obtain ⟨e3, l3⟩ := idOk_of h3
  exact run_exec_build30 f 3 _ [idOf (f x), idOf (f y), idOf (f z)] dst ty' pos after guard w (by simp [l1, l2, l3]) rfl (by decide) (by decide) (by simp [idParts, ← e1, ← e2, ← e3])
attribute [go_sem] idOf_idB

theorem ids_new (w : World) (xs : List (List UInt8)) (hx : ∀ x ∈ xs, x.length = 32) : IdsIn (w.alloc (.cells (idsC xs).toArray 24)) (some ⟨w.heap.size, 0, none⟩) xs := by
  refine ⟨hx, ?_⟩
  by_cases h0 : xs = []
  · exact .inl h0
  refine .inr ⟨_, 0, rfl, fun i hi => ?_⟩
  have hh := (MapKept.heap_alloc w (.cells (idsC xs).toArray 24)).1
  have hs : (idsC xs).toArray.size = xs.length * 32 := by simp [idsC_length xs hx]
  refine ⟨⟨rfl, _, _, _, hh, by rw [hs]; simp; omega⟩, ?_⟩
  unfold aggAt
  rw [show (w.alloc (.cells (idsC xs).toArray 24)).heap[(⟨w.heap.size, 0 + i * 32, none⟩ : Addr).block]? = some (.cells (idsC xs).toArray 24) from hh]
  have hcur := idsC_at xs i hx hi
  apply Array.ext'
  simp only [Array.toList_extract, List.extract_eq_take_drop, idB]
  rw [← hcur, show 0 + i * 32 + 32 - (0 + i * 32) = 32 by omega, Nat.zero_add]

/-- A slice of ids with room for no more. -/
def slF (xs : List (List UInt8)) : Value → World → Prop := fun v w => ∃ g, v = .slice (some ⟨g, 0, none⟩) xs.length xs.length ∧ IdsIn w (some ⟨g, 0, none⟩) xs
theorem slF_st (xs : List (List UInt8)) : ∀ v w w', slF xs v w → Below w.heap.size w w' → slF xs v w' := fun _ _ _ ⟨g, h1, h2⟩ hb => ⟨g, h1, h2.below hb⟩
theorem slI_st (xs : List (List UInt8)) : ∀ v w w', (fun v w => SlI w v xs) v w → Below w.heap.size w w' → (fun v w => SlI w v xs) v w' := fun _ _ _ h hb => SlI_below h hb

theorem setL_ex : setL [oneId 2, oneId 1, oneId 2] = [oneId 1, oneId 2] := by
  unfold setL
  have h : msort [oneId 2, oneId 1, oneId 2] = [oneId 1, oneId 2, oneId 2] := by
    refine List.Perm.eq_of_pairwise (le := fun a b => leB a b = true) (fun a b _ _ h1 h2 => leB_anti a b h1 h2) (msort_sorted _) ?_ ((msort_perm _).trans ?_)
    · simp only [List.pairwise_cons]; decide
    · exact List.Perm.swap _ _ _
  rw [h]
  decide

end Go.Proofs.Ytmmmimkikakalaa

namespace Go.Proofs.Ytmmmimkikakalaa
open Go.RowKit
set_option linter.unusedVariables false

set_option maxHeartbeats 1000000 in
set_option maxRecDepth 100000 in
theorem risSet_any (a : Option Addr) (cap : Nat) (xs : List (List UInt8)) (w : World) (hm : xs.length ≤ 1000000) (hin : IdsIn w a xs) :
    Calls Try.prog 50 #[.slice a xs.length cap] w fun e w' => e = .returned (.bool (isSetL xs)) ∧ Below w.heap.size w w' := by
  have HIN := Lib.hid hin
  clear hin
  go_enter Try.func50, Try.ntmps50
  go_wp2_with fail
  go_loopg [3] (xs.length + 1) (fun g i wr => ∃ j : Nat, g + j = xs.length + 2 ∧ 1 ≤ j ∧ (j ≤ xs.length ∨ j = 1) ∧ i = .int .i64 j ∧ isSetL (xs.take j) = true ∧ Below w.heap.size w wr)
  case atStart => exact ⟨1, by omega, by omega, .inr rfl, rfl, by cases xs <;> simp [isSetL], Below.refl _ _⟩
  case round =>
    obtain ⟨j, hg, h1, h2, rfl, hall, hbw⟩ := hrel
    have HG := Lib.hid hg
    have H2 := Lib.hid h2
    have HA := Lib.hid hall
    have HB := Lib.hid hbw
    clear hg hall hbw h2
    by_cases hk : j < xs.length
    · rcases HIN.out.2 with h | ⟨b, off, rfl, hc⟩
      · subst h; simp at hk
      obtain ⟨e1, e2⟩ := IdAt.below (hc (j - 1) (by omega)) HB.out
      obtain ⟨e3, e4⟩ := IdAt.below (hc j hk) HB.out
      clear hc
      have HS := isSet_snoc xs (j - 1) (by omega)
      rw [show j - 1 + 2 = j + 1 by omega, show j - 1 + 1 = j by omega] at HS
      have hx := HIN.out.1 _ (getD_mem (show j - 1 < xs.length by omega))
      have hy := HIN.out.1 _ (getD_mem hk)
      generalize xs.getD (j - 1) [] = x at *
      generalize xs.getD j [] = y at *
      have RC := Lib.hid (fun W => rcompare_any x y hx hy W)
      generalize Lib.compareBytes x y = r at *
      have HSS := Lib.hid HS
      clear HS
      have i1 : (j : Int) < xs.length := by omega
      have i2 : 0 < (j : Int) := by omega
      have i5 : ((j : Int) - 1).toNat = j - 1 := by omega
      have i6 : IntKind.i64.wrap ((j : Int) - 1) = (j : Int) - 1 := IntWalk.i64_in _ (by omega)
      by_cases hr : 0 ≤ r
      · go_wp2_with fail
        refine wp_region_over (by kernel_rfl) (by kernel_rfl) ?_
        repeat (go_big_quiet_step ((go_at_call 58; exact Calls.over_of (RC.out _))))
        refine wpQuiet_nil ?_
        rintro _ ⟨x0, rfl⟩
        clear e1 e2 e3 e4 i6
        go_wp2
        go_ret
        exact ⟨ret_bool (HSS.out.2 hr).symm, HB.out.trans ((ov_below wr x0).mono HB.out.size)⟩
      · go_wp2_with fail
        refine wp_region_over (by kernel_rfl) (by kernel_rfl) ?_
        repeat (go_big_quiet_step ((go_at_call 58; exact Calls.over_of (RC.out _))))
        refine wpQuiet_nil ?_
        rintro _ ⟨x0, rfl⟩
        clear e1 e2 e3 e4 i6
        go_wp2
        go_roundg (gk - 1)
        case measure => have := HG.out; omega
        case rel => exact ⟨j + 1, by have := HG.out; omega, by omega, .inl (by omega), by go_num, by rw [HSS.out.1, HA.out]; simpa using hr, HB.out.trans ((ov_below wr x0).mono HB.out.size)⟩
    · go_wp2
      go_ret
      have ha := HA.out
      rw [List.take_of_length_le (by omega)] at ha
      exact ⟨ret_bool ha.symm, HB.out⟩

set_option maxHeartbeats 1000000 in
set_option maxRecDepth 100000 in
theorem in_any (a : Option Addr) (cap : Nat) (xs : List (List UInt8)) (x : List UInt8) (w : World) (hm : xs.length ≤ 1000000) (hin : IdsIn w a xs) (hx : x.length = 32) :
    Calls Try.prog 22 #[.slice a xs.length cap, .agg (idB x)] w fun e w' => e = .returned (.bool (decide (x ∈ xs))) ∧ Below w.heap.size w w' := by
  have hb0 := (Below.refl w.heap.size w).alloc (Nat.le_refl _) (.cells (idB x) 24)
  have f1 := fits_new w (idB x) 24 32 (by rw [idB_size, hx])
  have f2 := aggAt_new w (idB x) 24 32 (by rw [idB_size, hx])
  have hin1 := hin.below hb0
  obtain ⟨W, hW⟩ : ∃ W, W = w.alloc (.cells (idB x) 24) := ⟨_, rfl⟩
  rw [← hW] at hb0 f1 f2 hin1
  have HIN := Lib.hid hin1
  have HB0 := Lib.hid hb0
  have F12 := Lib.hid (And.intro f1 f2)
  clear hin hin1 hb0 f1 f2
  go_enter Try.func22, Try.ntmps22
  go_wp2_with fail
  rw [← hW]
  clear hW
  go_loopg [5] xs.length (fun g i wr => ∃ k : Nat, g + k = xs.length ∧ i = .int .i64 k ∧ ¬ x ∈ xs.take k ∧ Below W.heap.size W wr)
  case atStart => exact ⟨0, by omega, rfl, by simp, Below.refl _ _⟩
  case round =>
    obtain ⟨k, hg, rfl, hall, hbw⟩ := hrel
    have HG := Lib.hid hg
    have HA := Lib.hid hall
    have HB := Lib.hid hbw
    clear hg hall hbw
    by_cases hk : k < xs.length
    · rcases HIN.out.2 with h | ⟨b, off, rfl, hc⟩
      · subst h; simp at hk
      obtain ⟨e1, e2⟩ := IdAt.below (hc k hk) HB.out
      obtain ⟨e3, e4⟩ := IdAt.below F12.out HB.out
      clear hc
      have hy := HIN.out.1 _ (getD_mem hk)
      have hmem := getD_mem hk
      have HT := Lib.hid (take_snoc [] xs k hk)
      have HM := Lib.hid hmem
      clear hmem
      generalize xs.getD k [] = y at *
      have i1 : (k : Int) < xs.length := by omega
      by_cases hxy : y = x
      · subst hxy
        have i2 : (y == y) = true := beq_self_eq_true _
        go_wp2_with fail
        refine wp_region_over (by kernel_rfl) (by kernel_rfl) ?_
        repeat (go_big_quiet_step (fail))
        refine wpQuiet_nil ?_
        rintro _ ⟨x0, rfl⟩
        clear e1 e2 e3 e4 i2
        go_wp2
        go_ret
        exact ⟨ret_bool (by simp [HM.out]), HB0.out.trans ((HB.out.trans ((ov_below wr x0).mono HB.out.size)).mono HB0.out.size)⟩
      · have i2 : (y == x) = false := beq_eq_false_iff_ne.2 hxy
        have HXY := Lib.hid hxy
        clear hxy
        go_wp2_with fail
        refine wp_region_over (by kernel_rfl) (by kernel_rfl) ?_
        repeat (go_big_quiet_step (fail))
        refine wpQuiet_nil ?_
        rintro _ ⟨x0, rfl⟩
        clear e1 e2 e3 e4 i2
        go_wp2
        go_roundg (gk - 1)
        case measure => have := HG.out; omega
        case rel => exact ⟨k + 1, by have := HG.out; omega, by go_num, by rw [HT.out]; simp only [List.mem_append, List.mem_singleton]; rintro (h | h); exact HA.out h; exact HXY.out h.symm, HB.out.trans ((ov_below wr x0).mono HB.out.size)⟩
    · go_wp2
      go_ret
      have ha := HA.out
      rw [List.take_of_length_le (by omega)] at ha
      exact ⟨ret_bool (by simp [ha]), HB0.out.trans (HB.out.mono HB0.out.size)⟩

end Go.Proofs.Ytmmmimkikakalaa
