/- A document in memory; New, Size, Len. -/
import Derived.Test.YtcgioboiebanpaaNc
namespace Go.Proofs.Ytcgioboiebanpaa
open Go.RowKit
set_option linter.unusedVariables false

/-- A run, plain: key, runes, dead. -/
abbrev MR := (Int × List UInt8 × Int) × List Int × Bool
/-- A run's cells tell a plain run. -/
def RunIs (w : World) (x : RV) (r : MR) : Prop := x.1 = r.1 ∧ x.2.1.2.1 = r.2.1.length ∧ x.2.2 = r.2.2 ∧ IntsIn .i32 w x.2.1.1 r.2.1 ∧ r.2.1.length ≤ x.2.1.2.2 ∧ x.2.1.2.2 ≤ maxLen
/-- A document: its three cells in block d, its runs an own row at or above base. -/
structure DocAt (w : World) (base d : Nat) (rs : List MR) (size live : Int) : Prop where
  cells : ∃ v xs, w.heap[d]? = some (.cells #[v, .int .i64 size, .int .i64 live] 66 (0, 0)) ∧ runR.row 70 base xs v w ∧ xs.length = rs.length ∧ ∀ (i : Nat) (x : RV) (r : MR), xs[i]? = some x → rs[i]? = some r → RunIs w x r
theorem run_exec_build {P : Program} {t : TypeId} {cells : Array Value} (f : Operand → Value) (parts : Array (Nat × Operand)) (dst : Option Tmp) (ty' : TypeId) (pos : String) (after : Array Edge) (guard : Option (Nat × Bool)) (w : World)
    (h : P.built t (parts.map fun (i, x) => (i, f x)).toList = some cells) :
    (execOp f ⟨dst, .build t parts, ty', pos, after, guard⟩).run P w = .ok (.value (.agg cells)) w := by
  unfold execOp
  simp only [Sem.run_bind, run_build w t _ cells h, Result.andThen_ok]
  rfl
@[go_sem ↓] theorem bld66 (f : Operand → Value) (dst : Option Tmp) (ty' : TypeId) (pos : String) (after : Array Edge) (guard : Option (Nat × Bool)) (w : World) :
    (execOp f ⟨dst, .build 66 #[], ty', pos, after, guard⟩).run Try.prog w = .ok (.value (.agg #[.slice none 0 0, .int .i64 0, .int .i64 0])) w := run_exec_build f #[] dst ty' pos after guard w (by
      have h : Try.prog.built 66 [] = some #[.slice none 0 0, .int .i64 0, .int .i64 0] := by kernel_rfl
      simpa using h)
set_option maxRecDepth 100000 in
theorem new_any (w : World) : Calls Try.prog 10 #[] w fun e w' => e = .returned (.pointer (some ⟨w.heap.size, 0, none⟩)) ∧ DocAt w' (w.heap.size + 1) w.heap.size [] 0 0 ∧ Below w.heap.size w w' := by
  go_enter Try.func10, Try.ntmps10
  go_wp2
  go_ret
  refine ⟨rfl, ⟨_, [], (MapKept.heap_alloc w _).1, ⟨by simp, by simp [Rec.cells], .inl ⟨rfl, rfl⟩⟩, rfl, by simp⟩, (Below.refl _ w).alloc (Nat.le_refl _) _⟩
set_option maxRecDepth 100000 in
theorem size_any (d : Nat) (v : Value) (size live : Int) (w : World) (h : w.heap[d]? = some (.cells #[v, .int .i64 size, .int .i64 live] 66 (0, 0))) :
    Calls Try.prog 16 #[.pointer (some ⟨d, 0, none⟩)] w fun e w' => e = .returned (.int .i64 size) ∧ Below w.heap.size w w' := by
  have c1 : w.cell? ⟨d, 1, none⟩ = some (.int .i64 size) := by rw [Lib.cell_of_heap h]; rfl
  clear h
  go_enter Try.func16, Try.ntmps16
  go_wp2
  go_ret
  exact ⟨rfl, Below.refl _ _⟩
set_option maxRecDepth 100000 in
theorem len_any (d : Nat) (v : Value) (size live : Int) (w : World) (h : w.heap[d]? = some (.cells #[v, .int .i64 size, .int .i64 live] 66 (0, 0))) :
    Calls Try.prog 18 #[.pointer (some ⟨d, 0, none⟩)] w fun e w' => e = .returned (.int .i64 live) ∧ Below w.heap.size w w' := by
  have c1 : w.cell? ⟨d, 2, none⟩ = some (.int .i64 live) := by rw [Lib.cell_of_heap h]; rfl
  clear h
  go_enter Try.func18, Try.ntmps18
  go_wp2
  go_ret
  exact ⟨rfl, Below.refl _ _⟩
set_option maxRecDepth 100000 in
theorem size_nil (w : World) : Calls Try.prog 16 #[.pointer none] w fun e w' => e = .returned (.int .i64 0) ∧ Below w.heap.size w w' := by
  go_enter Try.func16, Try.ntmps16
  go_wp2
  go_ret
  exact ⟨rfl, Below.refl _ _⟩
set_option maxRecDepth 100000 in
theorem len_nil (w : World) : Calls Try.prog 18 #[.pointer none] w fun e w' => e = .returned (.int .i64 0) ∧ Below w.heap.size w w' := by
  go_enter Try.func18, Try.ntmps18
  go_wp2
  go_ret
  exact ⟨rfl, Below.refl _ _⟩
set_option maxRecDepth 100000 in
theorem copy_nil (w : World) : Calls Try.prog 17 #[.pointer none] w fun e w' => e = .returned (.pointer none) ∧ Below w.heap.size w w' := by
  go_enter Try.func17, Try.ntmps17
  go_wp2
  go_ret
  exact ⟨rfl, Below.refl _ _⟩
end Go.Proofs.Ytcgioboiebanpaa

namespace Go.Proofs.Ytcgioboiebanpaa
open Go.RowKit
set_option linter.unusedVariables false

@[go_sem ↓] theorem load26 (f : Operand → Value) (x : Operand) (dst : Option Tmp) (ty' : TypeId) (pos : String) (after : Array Edge) (guard : Option (Nat × Bool)) (w : World)
    (hp : isPtr (f x) = true) (hf : fits w (addrOf (f x)) 34) :
    (execOp f ⟨dst, .load 26 x, ty', pos, after, guard⟩).run Try.prog w = .ok (.value (.agg (aggAt w (addrOf (f x)) 34))) w :=
  run_exec_load Try.underlying26 rfl (by kernel_rfl) f x dst ty' pos after guard w hp hf
@[go_sem ↓] theorem load70 (f : Operand → Value) (x : Operand) (dst : Option Tmp) (ty' : TypeId) (pos : String) (after : Array Edge) (guard : Option (Nat × Bool)) (w : World)
    (hp : isPtr (f x) = true) (hf : fits w (addrOf (f x)) 36) :
    (execOp f ⟨dst, .load 70 x, ty', pos, after, guard⟩).run Try.prog w = .ok (.value (.agg (aggAt w (addrOf (f x)) 36))) w :=
  run_exec_load Try.underlying70 rfl (by kernel_rfl) f x dst ty' pos after guard w hp hf
theorem heap_setCell_at {w : World} {b off : Nat} {c : Array Value} {e : TypeId} {f : Nat × Nat} (h : w.heap[b]? = some (.cells c e f)) (v : Value) : (w.setCell ⟨b, off, none⟩ v).heap[b]? = some (.cells (c.setIfInBounds off v) e f) := by
  have hl := (Array.getElem?_eq_some_iff.1 h).1
  have hv := (Array.getElem?_eq_some_iff.1 h).2
  simp [World.setCell, hl, Array.getElem_modify, hv]
theorem keyB_set (t : Int) (c : List UInt8) (i j : Int) (hc : c.length = 32) : (keyB t c i).setIfInBounds 33 (.int .i64 j) = keyB t c j := by
  rw [keyB_list, keyB_list, List.setIfInBounds_toArray]
  congr 1
  rw [List.set_append_right _ _ (by simp [Lib.byteCells, hc])]
  simp [Lib.byteCells, hc]
/-- A whole store at a block's begin, as an arm. -/
theorem wpList_store_blk {w : World} {ops : Array Oper} {rest : List Oper} {o : Oper} {a : Act} {Q : Exit → Act → World → Prop} (t : TypeId) (n : Nat) (ht : (Try.prog.info? t).map (·.size) = some n) (hgd : o.guard = none) (x y : Operand) (ho : o.op = .store t x y) (b : Nat) (z : Array Value) (hz : z.size = n) (h1 : ∀ u ∈ z.toList, u.oneCell' = true)
    (hx : a.eval x = .pointer (some ⟨b, 0, none⟩)) (hy : a.eval y = .agg z) (cur : Array Value) (hb : w.heap[b]? = some (.cells cur t (0, 0))) (hc : cur.size = n)
    (h : ∀ w', w'.heap[b]? = some (.cells z t (0, 0)) → (∀ k, k ≠ b → w'.heap[k]? = w.heap[k]?) → w.grownBy w' (some b) → wpList Try.prog ops Q rest (a.put o.dst undef) w') : wpList Try.prog ops Q (o :: rest) a w := by
  have hr := run_storeVar_row (P := Try.prog) w b t t cur z hb (by rw [ht, hz]) (by rw [hc, hz]) (by rw [Array.all_eq_true_iff_forall_mem]; intro u hu; exact h1 u (by simpa using hu))
  refine wpList_plain hgd fun _ hK => ?_
  unfold Oper.wp execOp
  simp only [ho, hx, hy, Instr.storeAt, Instr.sureAddr, Sem.run_bind, Sem.run_pure, Result.andThen_ok, hr]
  exact hK _ _ (h _ (setRow_heap w b cur z t (0, 0) hb) (fun k hk => setRow_other w b k _ hk) ⟨rfl, rfl, rfl, by simp, fun k _ hk => setRow_other w b k _ (fun e => hk (by rw [e]))⟩)
end Go.Proofs.Ytcgioboiebanpaa

namespace Go.Proofs.Ytcgioboiebanpaa
open Go.RowKit
set_option linter.unusedVariables false

set_option maxHeartbeats 1000000 in
set_option maxRecDepth 100000 in
theorem delete_nil (t : Int) (c : List UInt8) (i n : Int) (w : World) : Calls Try.prog 24 #[.pointer none, .agg (keyB t c i), .int .i64 n] w fun e w' => e = .returned (.int .i64 1) ∧ Below w.heap.size w w' := by
  have hb := Lib.hid ((Below.refl w.heap.size w).alloc (Nat.le_refl _) (.cells (keyB t c i) 26))
  go_enter Try.func24, Try.ntmps24
  go_wp2
  go_ret
  exact ⟨rfl, hb.out⟩
set_option maxHeartbeats 1000000 in
set_option maxRecDepth 100000 in
theorem pieces_nil (w : World) : Calls Try.prog 14 #[.pointer none] w fun e w' => e = .returned (.slice none 0 0) ∧ Below w.heap.size w w' := by
  go_enter Try.func14, Try.ntmps14
  go_wp2
  go_ret
  exact ⟨rfl, Below.refl _ _⟩
set_option maxHeartbeats 1000000 in
set_option maxRecDepth 100000 in
theorem find_nil (t : Int) (c : List UInt8) (i : Int) (w : World) : Calls Try.prog 22 #[.pointer none, .agg (keyB t c i)] w fun e w' => e = .returned (.tuple #[.int .i64 0, .bool false, .int .i64 1]) ∧ Below w.heap.size w w' := by
  have hb := Lib.hid ((Below.refl w.heap.size w).alloc (Nat.le_refl _) (.cells (keyB t c i) 26))
  go_enter Try.func22, Try.ntmps22
  go_wp2
  go_ret3
  exact ⟨rfl, hb.out⟩
set_option maxHeartbeats 2000000 in
set_option maxRecDepth 100000 in
theorem insert_nil (t t' : Int) (c c' : List UInt8) (i i' : Int) (b : Bool) (s : ByteArray) (hs : s.size ≤ maxLen) (hreach : s.size * 4 ≤ 140737488351232) (w : World) :
    Calls Try.prog 23 #[.pointer none, .agg (keyB t c i), .agg (keyB t' c' i'), .bool b, .string s] w fun e w' => e = .returned (.int .i64 1) ∧ Below w.heap.size w w' := by
  obtain ⟨W, hW⟩ : ∃ W, W = (w.alloc (.cells (keyB t c i) 26)).alloc (.cells (keyB t' c' i') 26) := ⟨_, rfl⟩
  have q1 := (Below.refl w.heap.size w).alloc (Nat.le_refl _) (.cells (keyB t c i) 26)
  have q2 := (Below.refl (w.alloc (.cells (keyB t c i) 26)).heap.size (w.alloc (.cells (keyB t c i) 26))).alloc (Nat.le_refl _) (.cells (keyB t' c' i') 26)
  have q3 := q1.trans (q2.mono q1.size)
  rw [← hW] at q3
  have HQ := Lib.hid q3
  have HR := Lib.hid (runes_any s hs hreach W)
  clear q1 q2 q3
  go_enter Try.func23, Try.ntmps23
  go_upto_region 1 with fail
  rw [← hW]
  clear hW
  go_wp2_with fail
  refine HR.out.mono ?_
  rintro e w1 ⟨v, rfl, hr, hb⟩
  have HB := Lib.hid (HQ.out.trans (hb.mono HQ.out.size))
  have hv : ∃ a n k, v = .slice a n k := by
    rcases hr.2 with ⟨rfl, _⟩ | ⟨g, cap, cur, rfl, _⟩
    · exact ⟨_, _, _, rfl⟩
    · exact ⟨_, _, _, rfl⟩
  obtain ⟨a, n, k, rfl⟩ := hv
  clear hr hb
  go_wp2
  go_ret
  exact ⟨rfl, HB.out⟩
end Go.Proofs.Ytcgioboiebanpaa
