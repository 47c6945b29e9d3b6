/- bytes.Compare, order.Compare, the reference's Compare. -/
import Derived.Test.YtchbpfkjhilgiaaG
import Derived.Lib.BytesEntry
namespace Go.Proofs.Ytchbpfkjhilgiaa
open Go.RowKit
set_option linter.unusedVariables false

/-- The cells of an id. -/
def idB (x : List UInt8) : Array Value := (Lib.byteCells x).toArray
theorem idB_size (x : List UInt8) : (idB x).size = x.length := by simp [idB, Lib.byteCells]
theorem idB_get (x : List UInt8) (j : Nat) (h : j < x.length) : (idB x)[j]? = some (.int .u8 (x.getD j 0).toNat) := by
  simp [idB, Lib.byteCells, h]

theorem loadBytes_of {P : Program} (w : World) (b off : Nat) (x : List UInt8) (h : fits w ⟨b, off, none⟩ x.length) (hx : aggAt w ⟨b, off, none⟩ x.length = idB x) :
    (Extern.Bytes.loadBytes ⟨b, off, none⟩ x.length .empty).run P w = .ok ⟨x.toArray⟩ w := by
  have := Lib.run_loadBytesX (P := P) (w := w) (x.map fun c => (c.toNat : Int)) ⟨b, off, none⟩ .empty (fun j v hj => by
    have hjl : j < x.length := by
      rcases Nat.lt_or_ge j x.length with hh | hh
      · exact hh
      · simp [hh] at hj
    have hadd : (⟨b, off, none⟩ : Addr).add j = ⟨b, off + j, none⟩ := by unfold Addr.add; split <;> simp_all
    rw [hadd, aggAt_get h hjl, hx, idB_get x j hjl]
    simp [hjl] at hj ⊢
    exact hj)
  simp only [List.length_map] at this
  rw [this]
  congr 1
  apply ByteArray.ext
  simp [Lib.bytesOf, Function.comp_def]

theorem run_bytealg_compare {P : Program} (w : World) (b1 o1 c1 b2 o2 c2 : Nat) (x y : List UInt8) (h1 : fits w ⟨b1, o1, none⟩ x.length) (hx : aggAt w ⟨b1, o1, none⟩ x.length = idB x)
    (h2 : fits w ⟨b2, o2, none⟩ y.length) (hy : aggAt w ⟨b2, o2, none⟩ y.length = idB y) :
    (Extern.BytealgCompare.compare #[.slice (some ⟨b1, o1, none⟩) x.length c1, .slice (some ⟨b2, o2, none⟩) y.length c2]).run P w = .ok (.int .i64 (Lib.compareBytes x y)) w := by
  change Sem.run P (do pure (goInt (Extern.BytealgCompare.cmp (← Extern.Bytes.bytesOf (.slice (some ⟨b1, o1, none⟩) x.length c1)) (← Extern.Bytes.bytesOf (.slice (some ⟨b2, o2, none⟩) y.length c2))))) w = _
  simp only [Extern.Bytes.bytesOf, Sem.run_bind, loadBytes_of w b1 o1 x h1 hx, loadBytes_of w b2 o2 y h2 hy, Sem.run_pure, Result.andThen]
  rw [Lib.cmp_eq]
  rfl


theorem quiet_left {P : Program} {f : FuncId} {args : Array Value} {w : World} {n : Nat} {v : Value}
    (h : Calls P f args (w.drewN n) fun e w' => e = .returned v ∧ w.drewN n = w') : Calls P f args (w.drewN n) fun e w'' => e = .returned v ∧ ∃ m, w'' = w.drewN m :=
  h.mono fun _ _ ⟨he, hm⟩ => ⟨he, n, hm.symm⟩

set_option maxHeartbeats 1000000 in
set_option maxRecDepth 100000 in
theorem bcompare_any (w : World) (b1 o1 c1 b2 o2 c2 : Nat) (x y : List UInt8) (h1 : fits w ⟨b1, o1, none⟩ x.length) (hx : aggAt w ⟨b1, o1, none⟩ x.length = idB x)
    (h2 : fits w ⟨b2, o2, none⟩ y.length) (hy : aggAt w ⟨b2, o2, none⟩ y.length = idB y) :
    Calls Try.prog 44 #[.slice (some ⟨b1, o1, none⟩) x.length c1, .slice (some ⟨b2, o2, none⟩) y.length c2] w fun e w' => e = .returned (.int .i64 (Lib.compareBytes x y)) ∧ w = w' := by
  have H := Lib.hid (run_bytealg_compare (P := Try.prog) w b1 o1 c1 b2 o2 c2 x y h1 hx h2 hy)
  clear h1 hx h2 hy
  go_enter Try.func44, Try.ntmps44
  go_wp2
  rw [run_callFunc_extern Try.func49 (by kernel_rfl) (by kernel_rfl) (by kernel_rfl) (e := Extern.BytealgCompare.compare) (by kernel_rfl)]
  rw [H.out]
  simp only [Result.andThen]
  rw [Oper.upon_value]
  go_wp2
  go_ret
  exact ⟨rfl, rfl⟩

theorem fits_new (w : World) (cs : Array Value) (t : TypeId) (n : Nat) (h : cs.size = n) : fits (w.alloc (.cells cs t)) ⟨w.heap.size, 0, none⟩ n :=
  ⟨rfl, cs, t, (0, 0), (MapKept.heap_alloc w _).1, by simp; omega⟩
theorem aggAt_new (w : World) (cs : Array Value) (t : TypeId) (n : Nat) (h : cs.size = n) : aggAt (w.alloc (.cells cs t)) ⟨w.heap.size, 0, none⟩ n = cs := by
  subst h
  unfold aggAt; rw [(MapKept.heap_alloc w _).1]; simp

set_option maxHeartbeats 1000000 in
set_option maxRecDepth 100000 in
theorem compare_any (x y : List UInt8) (hx : x.length = 32) (hy : y.length = 32) (w : World) :
    Calls Try.prog 32 #[.agg (idB x), .agg (idB y)] w fun e w' => e = .returned (.int .i64 (Lib.compareBytes x y)) ∧ Below w.heap.size w w' := by
  have c1 := fun n => bcompare_any (((w.alloc (.cells (idB x) 36)).alloc (.cells (idB y) 36)).drewN n) w.heap.size 0 32 (w.heap.size + 1) 0 32 x y
  have HC : Hid (∀ n, Calls Try.prog 44 #[.slice (some ⟨w.heap.size, 0, none⟩) 32 32, .slice (some ⟨w.heap.size + 1, 0, none⟩) 32 32] (((w.alloc (.cells (idB x) 36)).alloc (.cells (idB y) 36)).drewN n) fun e w' => e = .returned (.int .i64 (Lib.compareBytes x y)) ∧ ((w.alloc (.cells (idB x) 36)).alloc (.cells (idB y) 36)).drewN n = w') := by
    intro n
    have := c1 n
    rw [hx, hy] at this
    have e1 : ((w.alloc (.cells (idB x) 36)).alloc (.cells (idB y) 36)).heap[w.heap.size]? = (w.alloc (.cells (idB x) 36)).heap[w.heap.size]? := Below.heap_alloc _ _ _ (by simp)
    refine this ?_ ?_ ?_ ?_
    · exact fits_of_block (w := w.alloc (.cells (idB x) 36)) e1 (fits_new _ _ _ _ (by rw [idB_size, hx]))
    · exact (aggAt_of_block (w := w.alloc (.cells (idB x) 36)) e1).trans (aggAt_new _ _ _ _ (by rw [idB_size, hx]))
    · have := fits_new (w.alloc (.cells (idB x) 36)) (idB y) 36 32 (by rw [idB_size, hy])
      simp only [World.size_alloc] at this
      exact this
    · have := aggAt_new (w.alloc (.cells (idB x) 36)) (idB y) 36 32 (by rw [idB_size, hy])
      simp only [World.size_alloc] at this
      exact this
  clear c1
  go_enter Try.func32, Try.ntmps32
  go_wp2_with fail
  go_quiet ((go_at_call 44; exact quiet_left (HC.out _)))
  go_wp2
  go_ret
  exact ⟨rfl, below_drewN (((Below.refl _ _).alloc (Nat.le_refl _) _).alloc (by simp) _) _⟩

end Go.Proofs.Ytchbpfkjhilgiaa
