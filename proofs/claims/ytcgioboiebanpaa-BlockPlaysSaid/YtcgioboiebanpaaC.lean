/- Aggregates (arrays, structs) as flat rows of cells: what a load of one reads, in whatever block; bytes handed to bytes.Compare. -/
import Derived.Test.YtcgioboiebanpaaProg
import Derived.WalkKit
import Derived.WalkSpells
import Derived.WalkLawsBesides
import Derived.WalkSmall
import Derived.Lib.Hide
import Derived.Lib.Bytealg
import Derived.Lib.Builder
import Derived.Deep.LoopGhost
import Derived.Deep.DeepCutAuto
import Derived.Deep.CutBlock
import Derived.Deep.RegionWith
import Derived.Deep.QuietTactic
import Derived.BigQuiet
import Derived.Lib.BytesEntry
namespace Go.Proofs.Ytcgioboiebanpaa
open Go.RowKit
set_option linter.unusedVariables false

/-- The n cells from an address on. -/
def aggAt (w : World) (a : Addr) (n : Nat) : Array Value :=
  match w.heap[a.block]? with | some (.cells c _ _) => c.extract a.off (a.off + n) | _ => #[]
/-- n cells lie there. -/
def fits (w : World) (a : Addr) (n : Nat) : Prop := a.spot = none ∧ ∃ c e f, w.heap[a.block]? = some (.cells c e f) ∧ a.off + n ≤ c.size

theorem fits.lt {w : World} {a : Addr} {n : Nat} (h : fits w a n) : a.block < w.heap.size := by
  obtain ⟨_, c, e, f, hh, _⟩ := h
  exact (Array.getElem?_eq_some_iff.1 hh).1

theorem fits_of_block {w w' : World} {a : Addr} {n : Nat} (h : w'.heap[a.block]? = w.heap[a.block]?) (hf : fits w a n) : fits w' a n := by
  obtain ⟨hs, c, e, f, hh, hl⟩ := hf
  exact ⟨hs, c, e, f, h.trans hh, hl⟩
theorem aggAt_of_block {w w' : World} {a : Addr} {n : Nat} (h : w'.heap[a.block]? = w.heap[a.block]?) : aggAt w' a n = aggAt w a n := by
  unfold aggAt; rw [h]

theorem aggAt_size {w : World} {a : Addr} {n : Nat} (h : fits w a n) : (aggAt w a n).size = n := by
  obtain ⟨_, c, e, f, hh, hl⟩ := h
  unfold aggAt; rw [hh]; simp; omega

theorem aggAt_get {w : World} {a : Addr} {n j : Nat} (h : fits w a n) (hj : j < n) : w.cell? ⟨a.block, a.off + j, none⟩ = (aggAt w a n)[j]? := by
  obtain ⟨_, c, e, f, hh, hl⟩ := h
  unfold aggAt; rw [Lib.cell_of_heap hh, hh]
  simp [Array.getElem?_extract]
  omega

theorem run_loadVar_agg {P : Program} {w : World} {a : Addr} {n : Nat} {ty : TypeId} {d : TypeDesc} (hu : P.underlying ty = some d)
    (hd : (match d with | .struct _ | .array _ _ => true | _ => false) = true) (hi : (P.info? ty).map (·.size) = some n) (hf : fits w a n) :
    (loadVar ty a).run P w = .ok (.agg (aggAt w a n)) w := by
  have hsz := aggAt_size hf
  have hl : (loadCells a (aggAt w a n).toList.length).run P w = .ok (aggAt w a n).toList.toArray w :=
    run_loadCells_list (P := P) w a (aggAt w a n).toList (fun j v hv => by
      have hj : j < n := by
        rcases Nat.lt_or_ge j n with h | h
        · exact h
        · rw [List.getElem?_eq_none (by rw [Array.length_toList, hsz]; exact h)] at hv; simp at hv
      have hadd : a.add j = ⟨a.block, a.off + j, none⟩ := by
        have := hf.1
        obtain ⟨b, o, s⟩ := a
        simp at this; subst this
        unfold Addr.add; split <;> simp_all
      rw [hadd, aggAt_get hf hj]
      simpa using hv)
  cases hq : P.info? ty with
  | none => simp [hq] at hi
  | some i =>
    have hs : i.size = n := by simpa [hq] using hi
    have hagg : (isAgg ty).run P w = .ok true w := by
      unfold isAgg
      rw [Sem.run_bind, run_underlying hu w]
      cases d <;> simp_all
    simp only [Array.length_toList, Array.toArray_toList, hsz] at hl
    simp [loadVar, Sem.run_bind, hagg, sizeOf, typeInfo, hq, hs, hl]

/-- The address that a value is. -/
def addrOf : Value → Addr | .pointer (some a) => a | _ => default
def isPtr : Value → Bool | .pointer (some _) => true | _ => false
@[go_sem] theorem addrOf_ptr (a : Addr) : addrOf (.pointer (some a)) = a := rfl
@[go_sem] theorem isPtr_ptr (a : Addr) : isPtr (.pointer (some a)) = true := rfl

theorem run_exec_load {P : Program} {n : Nat} {ty : TypeId} {d : TypeDesc} (hu : P.underlying ty = some d)
    (hd : (match d with | .struct _ | .array _ _ => true | _ => false) = true) (hi : (P.info? ty).map (·.size) = some n)
    (f : Operand → Value) (x : Operand) (dst : Option Tmp) (ty' : TypeId) (pos : String) (after : Array Edge) (guard : Option (Nat × Bool)) (w : World)
    (hp : isPtr (f x) = true) (hf : fits w (addrOf (f x)) n) :
    (execOp f ⟨dst, .load ty x, ty', pos, after, guard⟩).run P w = .ok (.value (.agg (aggAt w (addrOf (f x)) n))) w := by
  cases hfx : f x with
  | pointer a =>
    cases a with
    | none => rw [hfx] at hp; simp [isPtr] at hp
    | some a =>
      rw [hfx] at hf
      simp only [addrOf] at hf ⊢
      unfold execOp
      simp only [hfx, Instr.loadAt, Instr.sureAddr, Sem.run_bind, Sem.run_pure, Result.andThen_ok, run_loadVar_agg hu hd hi hf]
  | _ => rw [hfx] at hp; simp [isPtr] at hp

@[go_sem ↓] theorem load23 (f : Operand → Value) (x : Operand) (dst : Option Tmp) (ty' : TypeId) (pos : String) (after : Array Edge) (guard : Option (Nat × Bool)) (w : World)
    (hp : isPtr (f x) = true) (hf : fits w (addrOf (f x)) 32) :
    (execOp f ⟨dst, .load 24 x, ty', pos, after, guard⟩).run Try.prog w = .ok (.value (.agg (aggAt w (addrOf (f x)) 32))) w :=
  run_exec_load Try.underlying24 rfl (by kernel_rfl) f x dst ty' pos after guard w hp hf

end Go.Proofs.Ytcgioboiebanpaa

namespace Go.Proofs.Ytcgioboiebanpaa
open Go.RowKit
set_option linter.unusedVariables false

/-- The cells of an id. -/
def idB (x : List UInt8) : Array Value := (Lib.byteCells x).toArray
theorem idB_size (x : List UInt8) : (idB x).size = x.length := by simp [idB, Lib.byteCells]
theorem idB_get (x : List UInt8) (j : Nat) (h : j < x.length) : (idB x)[j]? = some (.int .u8 (x.getD j 0).toNat) := by
  simp [idB, Lib.byteCells, h]

theorem loadBytes_of {P : Program} (w : World) (b off : Nat) (x : List UInt8) (h : fits w ⟨b, off, none⟩ x.length) (hx : aggAt w ⟨b, off, none⟩ x.length = idB x) :
    (Extern.Bytes.loadBytes ⟨b, off, none⟩ x.length .empty).run P w = .ok ⟨x.toArray⟩ w := by
  have := Lib.run_loadBytesX (P := P) (w := w) (x.map fun c => (c.toNat : Int)) ⟨b, off, none⟩ .empty (fun j v hj => by
    have hjl : j < x.length := by
      rcases Nat.lt_or_ge j x.length with hh | hh
      · exact hh
      · simp [hh] at hj
    have hadd : (⟨b, off, none⟩ : Addr).add j = ⟨b, off + j, none⟩ := by unfold Addr.add; split <;> simp_all
    rw [hadd, aggAt_get h hjl, hx, idB_get x j hjl]
    simp [hjl] at hj ⊢
    exact hj)
  simp only [List.length_map] at this
  rw [this]
  congr 1
  apply ByteArray.ext
  simp [Lib.bytesOf, Function.comp_def]

theorem run_bytealg_compare {P : Program} (w : World) (b1 o1 c1 b2 o2 c2 : Nat) (x y : List UInt8) (h1 : fits w ⟨b1, o1, none⟩ x.length) (hx : aggAt w ⟨b1, o1, none⟩ x.length = idB x)
    (h2 : fits w ⟨b2, o2, none⟩ y.length) (hy : aggAt w ⟨b2, o2, none⟩ y.length = idB y) :
    (Extern.BytealgCompare.compare #[.slice (some ⟨b1, o1, none⟩) x.length c1, .slice (some ⟨b2, o2, none⟩) y.length c2]).run P w = .ok (.int .i64 (Lib.compareBytes x y)) w := by
  change Sem.run P (do pure (goInt (Extern.BytealgCompare.cmp (← Extern.Bytes.bytesOf (.slice (some ⟨b1, o1, none⟩) x.length c1)) (← Extern.Bytes.bytesOf (.slice (some ⟨b2, o2, none⟩) y.length c2))))) w = _
  simp only [Extern.Bytes.bytesOf, Sem.run_bind, loadBytes_of w b1 o1 x h1 hx, loadBytes_of w b2 o2 y h2 hy, Sem.run_pure, Result.andThen]
  rw [Lib.cmp_eq]
  rfl


theorem quiet_left {P : Program} {f : FuncId} {args : Array Value} {w : World} {n : Nat} {v : Value}
    (h : Calls P f args (w.drewN n) fun e w' => e = .returned v ∧ w.drewN n = w') : Calls P f args (w.drewN n) fun e w'' => e = .returned v ∧ ∃ m, w'' = w.drewN m :=
  h.mono fun _ _ ⟨he, hm⟩ => ⟨he, n, hm.symm⟩

set_option maxHeartbeats 1000000 in
set_option maxRecDepth 100000 in
theorem bcompare_any (w : World) (b1 o1 c1 b2 o2 c2 : Nat) (x y : List UInt8) (h1 : fits w ⟨b1, o1, none⟩ x.length) (hx : aggAt w ⟨b1, o1, none⟩ x.length = idB x)
    (h2 : fits w ⟨b2, o2, none⟩ y.length) (hy : aggAt w ⟨b2, o2, none⟩ y.length = idB y) :
    Calls Try.prog 68 #[.slice (some ⟨b1, o1, none⟩) x.length c1, .slice (some ⟨b2, o2, none⟩) y.length c2] w fun e w' => e = .returned (.int .i64 (Lib.compareBytes x y)) ∧ w = w' := by
  have H := Lib.hid (run_bytealg_compare (P := Try.prog) w b1 o1 c1 b2 o2 c2 x y h1 hx h2 hy)
  clear h1 hx h2 hy
  go_enter Try.func68, Try.ntmps68
  go_wp2
  rw [run_callFunc_extern Try.func71 (by kernel_rfl) (by kernel_rfl) (by kernel_rfl) (e := Extern.BytealgCompare.compare) (by kernel_rfl)]
  rw [H.out]
  simp only [Result.andThen]
  rw [Oper.upon_value]
  go_wp2
  go_ret
  exact ⟨rfl, rfl⟩

theorem fits_new (w : World) (cs : Array Value) (t : TypeId) (n : Nat) (h : cs.size = n) : fits (w.alloc (.cells cs t)) ⟨w.heap.size, 0, none⟩ n :=
  ⟨rfl, cs, t, (0, 0), (MapKept.heap_alloc w _).1, by simp; omega⟩
theorem aggAt_new (w : World) (cs : Array Value) (t : TypeId) (n : Nat) (h : cs.size = n) : aggAt (w.alloc (.cells cs t)) ⟨w.heap.size, 0, none⟩ n = cs := by
  subst h
  unfold aggAt; rw [(MapKept.heap_alloc w _).1]; simp

set_option maxHeartbeats 1000000 in
set_option maxRecDepth 100000 in
theorem compare_any (x y : List UInt8) (hx : x.length = 32) (hy : y.length = 32) (w : World) :
    Calls Try.prog 59 #[.agg (idB x), .agg (idB y)] w fun e w' => e = .returned (.int .i64 (Lib.compareBytes x y)) ∧ Below w.heap.size w w' := by
  have c1 := fun n => bcompare_any (((w.alloc (.cells (idB x) 24)).alloc (.cells (idB y) 24)).drewN n) w.heap.size 0 32 (w.heap.size + 1) 0 32 x y
  have HC : Hid (∀ n, Calls Try.prog 68 #[.slice (some ⟨w.heap.size, 0, none⟩) 32 32, .slice (some ⟨w.heap.size + 1, 0, none⟩) 32 32] (((w.alloc (.cells (idB x) 24)).alloc (.cells (idB y) 24)).drewN n) fun e w' => e = .returned (.int .i64 (Lib.compareBytes x y)) ∧ ((w.alloc (.cells (idB x) 24)).alloc (.cells (idB y) 24)).drewN n = w') := by
    intro n
    have := c1 n
    rw [hx, hy] at this
    have e1 : ((w.alloc (.cells (idB x) 24)).alloc (.cells (idB y) 24)).heap[w.heap.size]? = (w.alloc (.cells (idB x) 24)).heap[w.heap.size]? := Below.heap_alloc _ _ _ (by simp)
    refine this ?_ ?_ ?_ ?_
    · exact fits_of_block (w := w.alloc (.cells (idB x) 24)) e1 (fits_new _ _ _ _ (by rw [idB_size, hx]))
    · exact (aggAt_of_block (w := w.alloc (.cells (idB x) 24)) e1).trans (aggAt_new _ _ _ _ (by rw [idB_size, hx]))
    · have := fits_new (w.alloc (.cells (idB x) 24)) (idB y) 24 32 (by rw [idB_size, hy])
      simp only [World.size_alloc] at this
      exact this
    · have := aggAt_new (w.alloc (.cells (idB x) 24)) (idB y) 24 32 (by rw [idB_size, hy])
      simp only [World.size_alloc] at this
      exact this
  clear c1
  go_enter Try.func59, Try.ntmps59
  go_wp2_with fail
  go_quiet ((go_at_call 68; exact quiet_left (HC.out _)))
  go_wp2
  go_ret
  exact ⟨rfl, below_drewN (((Below.refl _ _).alloc (Nat.le_refl _) _).alloc (by simp) _) _⟩

end Go.Proofs.Ytcgioboiebanpaa
