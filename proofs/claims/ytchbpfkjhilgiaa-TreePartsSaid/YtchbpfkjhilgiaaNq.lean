/- awake. -/
import Derived.Test.YtchbpfkjhilgiaaNm
namespace Go.Proofs.Ytchbpfkjhilgiaa
open Go.RowKit
set_option linter.unusedVariables false

theorem run_exec_build {P : Program} {t : TypeId} {cells : Array Value} (f : Operand → Value) (parts : Array (Nat × Operand)) (dst : Option Tmp) (ty' : TypeId) (pos : String) (after : Array Edge) (guard : Option (Nat × Bool)) (w : World)
    (h : P.built t (parts.map fun (i, x) => (i, f x)).toList = some cells) :
    (execOp f ⟨dst, .build t parts, ty', pos, after, guard⟩).run P w = .ok (.value (.agg cells)) w := by
  unfold execOp
  simp only [Sem.run_bind, run_build w t _ cells h, Result.andThen_ok]
  rfl
theorem run_exec_build1 {P : Program} {t : TypeId} {cells : Array Value} (a : Act) (v : Value) (dst : Option Tmp) (ty' : TypeId) (pos : String) (after : Array Edge) (guard : Option (Nat × Bool)) (w : World)
    (h : P.built t [(0, v)] = some cells) : (execOp a.eval ⟨dst, .build t #[(0, .const v)], ty', pos, after, guard⟩).run P w = .ok (.value (.agg cells)) w :=
  run_exec_build a.eval _ dst ty' pos after guard w (by simpa [Act.eval] using h)
@[go_sem ↓] theorem bk1 (a : Act) (dst : Option Tmp) (ty' : TypeId) (pos : String) (after : Array Edge) (guard : Option (Nat × Bool)) (w : World) :
    (execOp a.eval ⟨dst, .build 38 #[(0, .const (.int .i64 1))], ty', pos, after, guard⟩).run Try.prog w = .ok (.value (.agg (keyB 1 zeroId 0))) w :=
  run_exec_build1 a (.int .i64 1) dst ty' pos after guard w (show Try.prog.built 38 [(0, .int .i64 1)] = some (keyB 1 zeroId 0) by kernel_rfl)
@[go_sem ↓] theorem bk2 (a : Act) (dst : Option Tmp) (ty' : TypeId) (pos : String) (after : Array Edge) (guard : Option (Nat × Bool)) (w : World) :
    (execOp a.eval ⟨dst, .build 38 #[(0, .const (.int .i64 2))], ty', pos, after, guard⟩).run Try.prog w = .ok (.value (.agg (keyB 2 zeroId 0))) w :=
  run_exec_build1 a (.int .i64 2) dst ty' pos after guard w (show Try.prog.built 38 [(0, .int .i64 2)] = some (keyB 2 zeroId 0) by kernel_rfl)
@[go_sem ↓] theorem bk3 (a : Act) (dst : Option Tmp) (ty' : TypeId) (pos : String) (after : Array Edge) (guard : Option (Nat × Bool)) (w : World) :
    (execOp a.eval ⟨dst, .build 38 #[(0, .const (.int .i64 3))], ty', pos, after, guard⟩).run Try.prog w = .ok (.value (.agg (keyB 3 zeroId 0))) w :=
  run_exec_build1 a (.int .i64 3) dst ty' pos after guard w (show Try.prog.built 38 [(0, .int .i64 3)] = some (keyB 3 zeroId 0) by kernel_rfl)
theorem fill41t (K : List Value) (hK : K.length = 34) (va vp vr : Value) (ha : va.cells = K.toArray) (hp : cellV vp) (hr : cellV vr) (pl : Nat → Option (Nat × Nat)) (h0 : pl 0 = some (0, 34)) (h1 : pl 1 = some (34, 1)) (h2 : pl 2 = some (35, 1)) (h3 : pl 3 = some (36, 1))
    (D : List Value) (hD : D.length = 34) (x y z : Value) (hz : cellV z) : Instr.fill pl (D ++ [x, y, z]).toArray [(0, va), (1, vp), (2, vr)] = some (K ++ [vp, vr, z]).toArray := by
  have := fill41 K hK va vp vr z ha hp hr hz pl h0 h1 h2 h3 (D ++ [x, y, z]) (by simp [hD])
  rw [fill_one (off := 0) (sz := 34) (c := K) h0 ha hK (by simp; omega)] at this ⊢
  have e1 : (D ++ [x, y, z]).take 0 ++ K ++ (D ++ [x, y, z]).drop (0 + 34) = K ++ [x, y, z] := by
    rw [List.take_zero, List.nil_append, Nat.zero_add, List.drop_append, List.drop_of_length_le (by omega), hD]; rfl
  rw [e1, fill_one (off := 34) (sz := 1) (c := [vp]) h1 (by rw [hp]) rfl (by simp; omega)] at this ⊢
  have e2 : (K ++ [x, y, z]).take 34 ++ [vp] ++ (K ++ [x, y, z]).drop (34 + 1) = K ++ [vp, y, z] := by
    rw [List.take_append, List.take_of_length_le (by omega), List.drop_append, List.drop_of_length_le (by omega), hK]; simp
  rw [e2, fill_one (off := 35) (sz := 1) (c := [vr]) h2 (by rw [hr]) rfl (by simp; omega)] at this ⊢
  have e3 : (K ++ [vp, y, z]).take 35 ++ [vr] ++ (K ++ [vp, y, z]).drop (35 + 1) = K ++ [vp, vr, z] := by
    rw [List.take_append, List.take_of_length_le (by omega), List.drop_append, List.drop_of_length_le (by omega), hK]; simp
  rw [e3]
  rfl
theorem bld41t (f : Operand → Value) (a b c : Operand) (dst : Option Tmp) (ty' : TypeId) (pos : String) (after : Array Edge) (guard : Option (Nat × Bool)) (w : World) (ha : kyOk (f a)) (hb : cellV (f b)) (hc : cellV (f c)) :
    (execOp f ⟨dst, .build 41 #[(0, a), (1, b), (2, c)], ty', pos, after, guard⟩).run Try.prog w = .ok (.value (.agg (aggC (f a) ++ #[f b, f c, .bool false]))) w := by
  obtain ⟨x, hx, hl⟩ := ha
  have hs : (keyB x.1 x.2.1 x.2.2).toList.length = 34 := by rw [Array.length_toList, keyB_size, hl]
  have hbt : Try.prog.built 41 ((#[(0, a), (1, b), (2, c)] : Array (Nat × Operand)).map fun (i, x) => (i, f x)).toList = some (aggC (f a) ++ #[f b, f c, .bool false]) := by
    rw [built41]
    have h0 : (ndB ((0, List.replicate 32 0, 0), 0, 0, false)) = ((keyB 0 (List.replicate 32 0) 0).toList ++ [Value.int .i64 0, Value.int .i32 0, Value.bool false]).toArray := by
      apply Array.ext'
      rw [ndB_list]
    rw [h0]
    have := fill41t (keyB x.1 x.2.1 x.2.2).toList hs (f a) (f b) (f c) (by rw [hx]; simp [Value.cells]) hb hc (fun i => ([(0, 34), (34, 1), (35, 1), (36, 1)] : List (Nat × Nat)).toArray[i]?) rfl rfl rfl rfl (keyB 0 (List.replicate 32 0) 0).toList (by rw [Array.length_toList, keyB_size]; simp) (.int .i64 0) (.int .i32 0) (.bool false) rfl
    refine Eq.trans ?_ (this.trans ?_)
    · simp
    · rw [hx, aggC_agg]
      congr 1
      apply Array.ext'
      simp
  unfold execOp
  simp only [Sem.run_bind, run_build w 41 _ _ hbt, Result.andThen_ok]
  rfl
theorem build25t (f : Operand → Value) (y0 y1 y2 : Operand) (dst : Option Tmp) (ty' : TypeId) (pos : String) (after : Array Edge) (guard : Option (Nat × Bool)) (w : World) (h0 : ndOk (f y0)) (h1 : ndOk (f y1)) (h2 : ndOk (f y2)) :
    (execOp f ⟨dst, .buildSlice 25 3 #[(0, y0), (1, y1), (2, y2)], ty', pos, after, guard⟩).run Try.prog w = .ok (.value (.slice (some ⟨w.heap.size, 0, none⟩) 3 3)) (w.alloc (.cells ((aggC (f y0)).toList ++ ((aggC (f y1)).toList ++ (aggC (f y2)).toList)).toArray 41)) := by
  obtain ⟨x0, hx0, hl0⟩ := h0
  obtain ⟨x1, hx1, hl1⟩ := h1
  obtain ⟨x2, hx2, hl2⟩ := h2
  have := Rec.run_lit node25 w 3 [(f y0, x0), (f y1, x1), (f y2, x2)] (#[(0, y0), (1, y1), (2, y2)].map fun (i, x) => (i, f x)) (by simp [Rec.parts, List.zipIdx]) rfl (by decide) (by decide) (by
    intro z hz; simp at hz; rcases hz with rfl | rfl | rfl
    · exact ⟨hl0, by rw [hx0]; simp [nodeR, Value.cells]⟩
    · exact ⟨hl1, by rw [hx1]; simp [nodeR, Value.cells]⟩
    · exact ⟨hl2, by rw [hx2]; simp [nodeR, Value.cells]⟩)
  unfold execOp
  simp only [Sem.run_bind, this, Result.andThen_ok, hx0, hx1, hx2, aggC_agg]
  simp [Rec.cells, nodeR]
end Go.Proofs.Ytchbpfkjhilgiaa

namespace Go.Proofs.Ytchbpfkjhilgiaa
open Go.RowKit
set_option linter.unusedVariables false

/-- The example's elements. -/
def L3 : List Nd := [((1, zeroId, 0), -1, 97, false), ((2, zeroId, 0), 0, 98, true), ((3, zeroId, 0), 0, 99, false)]
theorem zero_32 : zeroId.length = 32 := by decide
theorem kc_t (t t' : Int) (h : t < t') : kCmp (t, zeroId, 0) (t', zeroId, 0) = -1 := by unfold kCmp; rw [keysCmp_eq]; simp [h]
theorem L3_right : RightL L3 := by
  refine ⟨fun i hi => ?_, fun i j hij hj => ?_⟩
  · have : i = 0 ∨ i = 1 ∨ i = 2 := by simp [L3] at hi; omega
    rcases this with rfl | rfl | rfl
    · exact ⟨by decide, by decide, by decide, fun h => absurd h (by decide)⟩
    · exact ⟨by decide, by decide, by decide, fun _ => by show kCmp (1, zeroId, 0) (2, zeroId, 0) < 0; rw [kc_t _ _ (by decide)]; decide⟩
    · exact ⟨by decide, by decide, by decide, fun _ => by show kCmp (1, zeroId, 0) (3, zeroId, 0) < 0; rw [kc_t _ _ (by decide)]; decide⟩
  · have : (i = 0 ∧ j = 1) ∨ (i = 0 ∧ j = 2) ∨ (i = 1 ∧ j = 2) := by simp [L3] at hj; omega
    rcases this with ⟨rfl, rfl⟩ | ⟨rfl, rfl⟩ | ⟨rfl, rfl⟩
    · intro h; have : (1 : Int) = 2 := congrArg Prod.fst h; omega
    · intro h; have : (1 : Int) = 3 := congrArg Prod.fst h; omega
    · intro h; have : (2 : Int) = 3 := congrArg Prod.fst h; omega
theorem L3_ord : ordN L3 = [0, 2, 1] := by
  rw [ordN_right L3_right]
  have w0 : (forest L3).way 0 = [0] := by decide
  have w1 : (forest L3).way 1 = [0, 1] := by decide
  have w2 : (forest L3).way 2 = [0, 2] := by decide
  have e02 : (forest L3).ec 0 2 ≤ 0 := by unfold Forest.ec; rw [w0, w2]; decide
  have e01 : (forest L3).ec 0 1 ≤ 0 := by unfold Forest.ec; rw [w0, w1]; decide
  have e21 : (forest L3).ec 2 1 ≤ 0 := by
    unfold Forest.ec; rw [w2, w1]
    show kCmp (2, zeroId, 0) (3, zeroId, 0) ≤ 0
    rw [kc_t _ _ (by decide)]; decide
  symm
  refine Forest.ord_unique L3_right.ok ?_ (fun x hx => Forest.ord_mem.1 hx) ?_ (Forest.ord_sorted L3_right.ok)
  · refine List.Perm.trans ?_ Forest.ord_perm.symm
    show [0, 2, 1].Perm [0, 1, 2]
    exact List.Perm.cons 0 (List.Perm.swap 1 2 [])
  · simp [e02, e01, e21]
theorem L3_live : encs (liveN L3) = [97, 99] := by
  unfold liveN; rw [L3_ord]; decide

end Go.Proofs.Ytchbpfkjhilgiaa

namespace Go.Proofs.Ytchbpfkjhilgiaa
open Go.RowKit
set_option linter.unusedVariables false

@[go_sem] theorem ndOk_raw (t : Int) (c : List UInt8) (i p r : Int) (d : Bool) (h : c.length = 32) : ndOk (.agg (keyB t c i ++ #[.int .i64 p, .int .i32 r, .bool d])) := ⟨((t, c, i), p, r, d), rfl, h⟩
/-- The elements' cells. -/
def c3 : Array Value := ((keyB 1 zeroId 0 ++ #[Value.int .i64 (-1), Value.int .i32 97, Value.bool false]).toList ++ ((keyB 2 zeroId 0 ++ #[Value.int .i64 0, Value.int .i32 98, Value.bool true]).toList ++ (keyB 3 zeroId 0 ++ #[Value.int .i64 0, Value.int .i32 99, Value.bool false]).toList)).toArray
@[go_sem ↓] theorem litA (a : Act) (x : Operand) (dst : Option Tmp) (ty' : TypeId) (pos : String) (after : Array Edge) (guard : Option (Nat × Bool)) (w : World) (hx : a.eval x = .agg (keyB 1 zeroId 0)) :
    (execOp a.eval ⟨dst, .build 41 #[(0, x), (1, .const (.int .i64 (-1))), (2, .const (.int .i32 97))], ty', pos, after, guard⟩).run Try.prog w = .ok (.value (.agg (keyB 1 zeroId 0 ++ #[.int .i64 (-1), .int .i32 97, .bool false]))) w := by
  rw [bld41t a.eval x (.const (.int .i64 (-1))) (.const (.int .i32 97)) dst ty' pos after guard w (by rw [hx]; exact kyOk_agg _ _ _ zero_32) (cellV_int _ _) (cellV_int _ _), hx]
  rfl
@[go_sem ↓] theorem litB (a : Act) (x : Operand) (dst : Option Tmp) (ty' : TypeId) (pos : String) (after : Array Edge) (guard : Option (Nat × Bool)) (w : World) (hx : a.eval x = .agg (keyB 2 zeroId 0)) :
    (execOp a.eval ⟨dst, .build 41 #[(0, x), (1, .const (.int .i64 0)), (2, .const (.int .i32 98)), (3, .const (.bool true))], ty', pos, after, guard⟩).run Try.prog w = .ok (.value (.agg (keyB 2 zeroId 0 ++ #[.int .i64 0, .int .i32 98, .bool true]))) w := by
  rw [bld41 a.eval x (.const (.int .i64 0)) (.const (.int .i32 98)) (.const (.bool true)) dst ty' pos after guard w (by rw [hx]; exact kyOk_agg _ _ _ zero_32) (cellV_int _ _) (cellV_int _ _) (cellV_bool _), hx]
  rfl
@[go_sem ↓] theorem litC (a : Act) (x : Operand) (dst : Option Tmp) (ty' : TypeId) (pos : String) (after : Array Edge) (guard : Option (Nat × Bool)) (w : World) (hx : a.eval x = .agg (keyB 3 zeroId 0)) :
    (execOp a.eval ⟨dst, .build 41 #[(0, x), (1, .const (.int .i64 0)), (2, .const (.int .i32 99))], ty', pos, after, guard⟩).run Try.prog w = .ok (.value (.agg (keyB 3 zeroId 0 ++ #[.int .i64 0, .int .i32 99, .bool false]))) w := by
  rw [bld41t a.eval x (.const (.int .i64 0)) (.const (.int .i32 99)) dst ty' pos after guard w (by rw [hx]; exact kyOk_agg _ _ _ zero_32) (cellV_int _ _) (cellV_int _ _), hx]
  rfl
@[go_sem ↓] theorem litL (a : Act) (x y z : Operand) (dst : Option Tmp) (ty' : TypeId) (pos : String) (after : Array Edge) (guard : Option (Nat × Bool)) (w : World) (hx : a.eval x = .agg (keyB 1 zeroId 0 ++ #[.int .i64 (-1), .int .i32 97, .bool false]))
    (hy : a.eval y = .agg (keyB 2 zeroId 0 ++ #[.int .i64 0, .int .i32 98, .bool true])) (hz : a.eval z = .agg (keyB 3 zeroId 0 ++ #[.int .i64 0, .int .i32 99, .bool false])) :
    (execOp a.eval ⟨dst, .buildSlice 25 3 #[(0, x), (1, y), (2, z)], ty', pos, after, guard⟩).run Try.prog w = .ok (.value (.slice (some ⟨w.heap.size, 0, none⟩) 3 3)) (w.alloc (.cells c3 41)) := by
  rw [build25t a.eval x y z dst ty' pos after guard w (by rw [hx]; exact ndOk_raw _ _ _ _ _ _ zero_32) (by rw [hy]; exact ndOk_raw _ _ _ _ _ _ zero_32) (by rw [hz]; exact ndOk_raw _ _ _ _ _ _ zero_32), hx, hy, hz]
  rfl
theorem c3_eq : (nodeR.cells L3).toArray = c3 := by
  have h : nodeR.cells L3 = (ndB ((1, zeroId, 0), -1, 97, false)).toList ++ ((ndB ((2, zeroId, 0), 0, 98, true)).toList ++ (ndB ((3, zeroId, 0), 0, 99, false)).toList) := by
    unfold L3
    rw [Rec.cells_cons, Rec.cells_cons, Rec.cells_cons, Rec.cells_nil, List.append_nil]
    unfold nodeR
    rfl
  rw [h]
  unfold c3 ndB
  rfl
theorem L3_in (w : World) : nodeR.In (w.alloc (.cells c3 41)) (some ⟨w.heap.size, 0, none⟩) L3 := by
  rw [← c3_eq]
  exact Rec.In.new (R := nodeR) w 41 L3 (by intro x hx; simp only [L3, List.mem_cons, List.not_mem_nil, or_false] at hx; rcases hx with rfl | rfl | rfl <;> exact zero_32)

set_option maxHeartbeats 4000000 in
set_option maxRecDepth 100000 in
theorem awake_any (w : World) : Calls Try.prog 14 #[] w fun e w' => e = .returned (.bool true) ∧ Below w.heap.size w w' := by
  have HIN := Lib.hid (L3_in w)
  have HB0 := Lib.hid ((Below.refl w.heap.size w).alloc (Nat.le_refl _) (.cells c3 41))
  obtain ⟨W, hW⟩ : ∃ W, W = w.alloc (.cells c3 41) := ⟨_, rfl⟩
  rw [← hW] at HIN HB0
  go_enter Try.func14, Try.ntmps14
  go_upto_region 2 with fail
  rw [← hW]
  clear hW
  have e3 : L3.length = 3 := rfl
  have ho := torder_any (some ⟨w.heap.size, 0, none⟩) 3 L3 W (by decide) HIN.out
  have htx := fun w' (hb : Below W.heap.size W w') => ttext_any (some ⟨w.heap.size, 0, none⟩) 3 L3 w' (by decide) (HIN.out.below hb)
  have hrt := fun w' (hb : Below W.heap.size W w') => tright_any (some ⟨w.heap.size, 0, none⟩) 3 L3 w' (by decide) (HIN.out.below hb)
  rw [e3, L3_ord] at ho
  simp only [e3, L3_live] at htx
  rw [show decide (RightL L3) = true from decide_eq_true L3_right] at hrt
  simp only [e3] at hrt
  have HO := Lib.hid ho
  have HTX := Lib.hid htx
  have HRT := Lib.hid hrt
  clear ho htx hrt e3
  go_wp2_with fail
  refine HO.out.mono ?_
  rintro e w1 ⟨v1, rfl, hr1, hb1⟩
  obtain ⟨p1, c1, rfl, _, _, hin1, _⟩ := hr1.sl
  have hb2 := (Below.refl w1.heap.size w1).alloc (Nat.le_refl _) (.cells #[.int .i64 0, .int .i64 2, .int .i64 1] 3)
  have hi2 := hin1.below hb2
  have hi3 : intR.In (w1.alloc (.cells #[.int .i64 0, .int .i64 2, .int .i64 1] 3)) (some ⟨w1.heap.size, 0, none⟩) (toI [0, 2, 1]) := Rec.In.new (R := intR) w1 3 (toI [0, 2, 1]) (fun _ _ => trivial)
  have hic := ints_any p1 (some ⟨w1.heap.size, 0, none⟩) c1 3 (toI [0, 2, 1]) (toI [0, 2, 1]) _ (by decide) (by decide) hi2 hi3
  rw [show (toI [0, 2, 1] == toI [0, 2, 1]) = true from by decide] at hic
  have HIC := Lib.hid hic
  have HBA := Lib.hid (hb1.trans (hb2.mono hb1.size))
  clear hr1 hb1 hin1 hb2 hi2 hi3 hic
  rw [show (toI [0, 2, 1]).length = 3 from rfl] at HIC ⊢
  go_wp2_with fail
  refine HIC.out.mono ?_
  rintro e w2 ⟨rfl, hb2⟩
  have HBB := Lib.hid (HBA.out.trans (hb2.mono HBA.out.size))
  have HT2 := Lib.hid (HTX.out w2 HBB.out)
  clear hb2
  go_wp2_with fail
  refine HT2.out.mono ?_
  rintro e w3 ⟨rfl, hb3⟩
  have HBC := Lib.hid (HBB.out.trans (hb3.mono HBB.out.size))
  have HR3 := Lib.hid (HRT.out w3 HBC.out)
  clear hb3
  go_wp2_with fail
  refine HR3.out.mono ?_
  rintro e w4 ⟨rfl, hb4⟩
  have HBD := Lib.hid (HB0.out.trans ((HBC.out.trans (hb4.mono HBC.out.size)).mono HB0.out.size))
  clear hb4
  go_wp2
  go_ret
  exact ⟨rfl, HBD.out⟩
end Go.Proofs.Ytchbpfkjhilgiaa
