/- Worlds over a world: what a call that only adds memory leaves; regions whose operations only read or call such calls, in whatever order. -/
import Derived.Test.YtchbpfkjhilgiaaI
namespace Go.Proofs.Ytchbpfkjhilgiaa
open Go.RowKit
set_option linter.unusedVariables false

/-- A world that has all of w, and more. -/
def ov (w x : World) : World := { heap := w.heap ++ x.heap.extract w.heap.size x.heap.size, tape := w.tape, drawn := x.drawn, os := w.os, output := w.output }

theorem ov_block (w x : World) (k : Nat) (h : k < w.heap.size) : (ov w x).heap[k]? = w.heap[k]? := by
  simp only [ov]; rw [Array.getElem?_append_left h]
theorem ov_size (w x : World) : w.heap.size ≤ (ov w x).heap.size := by simp [ov]
theorem ov_below (w x : World) : Below w.heap.size w (ov w x) := ⟨rfl, rfl, rfl, ov_size w x, fun k h => ov_block w x k h⟩
theorem ov_of {w w' : World} (h : Below w.heap.size w w') : ∃ x, w' = ov w x := by
  refine ⟨w', ?_⟩
  obtain ⟨h1, h2, h3, h4, h5⟩ := h
  cases w' with
  | mk hp tp dr os out =>
    cases w with
    | mk hp' tp' dr' os' out' =>
      simp only at h1 h2 h3 h4 h5
      subst h1 h2 h3
      simp only [ov, World.mk.injEq, and_true]
      apply Array.ext_getElem?
      intro i
      by_cases hi : i < hp'.size
      · rw [Array.getElem?_append_left hi, h5 i hi]
      · rw [Array.getElem?_append_right (by omega), Array.getElem?_extract]
        by_cases h6 : i < hp.size
        · rw [if_pos (by omega)]; congr 1; omega
        · rw [if_neg (by omega), Array.getElem?_eq_none (by omega)]
theorem ov_drew (w : World) : ∃ x, w.drew = ov w x := ov_of (Below.refl _ _).drew
theorem ov_trans {w x w' : World} (h : Below (ov w x).heap.size (ov w x) w') : ∃ y, w' = ov w y := ov_of ((ov_below w x).trans (h.mono (ov_size w x)))

@[go_sem] theorem cell_ov (w x : World) (a : Addr) (h : a.block < w.heap.size) : (ov w x).cell? a = w.cell? a := by
  unfold World.cell?; rw [ov_block w x _ h]
@[go_sem] theorem fits_ov (w x : World) (a : Addr) (n : Nat) (h : fits w a n) : fits (ov w x) a n := fits_of_block (ov_block w x _ h.lt) h
@[go_sem] theorem agg_ov (w x : World) (a : Addr) (n : Nat) (h : fits w a n) : aggAt (ov w x) a n = aggAt w a n := aggAt_of_block (ov_block w x _ h.lt)
@[go_sem] theorem fits_drewN (w : World) (k : Nat) (a : Addr) (n : Nat) (h : fits w a n) : fits (w.drewN k) a n := h
@[go_sem] theorem agg_drewN (w : World) (k : Nat) (a : Addr) (n : Nat) : aggAt (w.drewN k) a n = aggAt w a n := rfl
@[go_sem] theorem fits_alloc (w : World) (o : Obj) (a : Addr) (n : Nat) (h : fits w a n) : fits (w.alloc o) a n := fits_of_block (Below.heap_alloc w o _ h.lt) h
@[go_sem] theorem agg_alloc (w : World) (o : Obj) (a : Addr) (n : Nat) (h : fits w a n) : aggAt (w.alloc o) a n = aggAt w a n := aggAt_of_block (Below.heap_alloc w o _ h.lt)

theorem Calls.over_of {P : Program} {f : FuncId} {args : Array Value} {w x : World} {v : Value}
    (h : Calls P f args (ov w x) fun e w' => e = .returned v ∧ Below (ov w x).heap.size (ov w x) w') : Calls P f args (ov w x) fun e w'' => e = .returned v ∧ ∃ y, w'' = ov w y :=
  h.mono fun _ _ ⟨he, hb⟩ => ⟨he, ov_trans hb⟩
theorem Calls.over_same {P : Program} {f : FuncId} {args : Array Value} {w x : World} {v : Value}
    (h : Calls P f args (ov w x) fun e w' => e = .returned v ∧ ov w x = w') : Calls P f args (ov w x) fun e w'' => e = .returned v ∧ ∃ y, w'' = ov w y :=
  h.mono fun _ _ ⟨he, hb⟩ => ⟨he, x, hb.symm⟩

theorem wp_region_over {P : Program} {id : Nat} {Q : Exit → Act → World → Prop} {a : Act} {w : World} {l : List Oper} (hm : P.follows .mixedOrders = true) (hB : Region.lexB .any l.toArray = true)
    (h : wpQuiet P l.toArray (fun w' => ∃ x, w' = ov w x) (fun a' => ∀ w', (∃ x, w' = ov w x) → Q .normal a' w') l a) : (Code.region id l.toArray true).wp P Q a w :=
  wp_region_quiet (C := fun w' => ∃ x, w' = ov w x) hm hB (ov_drew w) (by simpa using h)

/-- A region whose operations' words are a list; what an operation does to the world: more memory. -/
theorem wp_region_specsL {P : Program} {l : List Oper} {Q : Exit → Act → World → Prop} {a0 : Act} {w0 : World} {id : Nat} (D : List (List Nat)) (T : List (Option Tmp)) (L : List Nat) (Sl : List (Value → World → Prop)) (hm : P.follows .mixedOrders = true) (hok : specsOk l a0.tmps.size D T L = true)
    (hst : Stables (fun a b => Below a.heap.size a b) Sl)
    (hop : Obls P l T a0 (fun w => Below w0.heap.size w0 w) (fun _ _ => True) (fun _ a b => Below a.heap.size a b) (fun i => Sl.getD i anyv) 0 D l)
    (hend : ∀ vs w, Below w0.heap.size w0 w → DepH (fun i => Sl.getD i anyv) vs w L → Q .normal (putL T vs L a0) w) :
    (Code.region id l.toArray true).wp P Q a0 w0 :=
  wp_region_specs D T L (fun a b => Below a.heap.size a b) (fun i => Sl.getD i anyv) hm hok (below_drewN (Below.refl _ _) 1) (fun _ _ _ h1 h2 => h1.trans (h2.mono h1.size)) (Stables.get hst) hop hend

theorem opEnds_mk {R : Nat → World → World → Prop} {S : Nat → Value → World → Prop} {df : List Deferred} {w w' : World} {i : Nat} {o : Oper} {a : Act} {d : Tmp} {v : Value}
    (hd : o.dst = some d) (hv : a.tmps[d]? = some v) (hdf : a.defers = df) (hR : R i w w') (hS : S i v w') : OpEnds R S df w i o .normal a w' := by
  refine ⟨rfl, hdf, hR, ?_⟩
  unfold resOf
  simp only [hd, Array.getD_eq_getD_getElem?, hv, Option.getD_some]
  exact hS

@[go_sem ↓] theorem quiet_ov {P : Program} {o : Oper} {a : Act} {w : World} {K : Act → Prop} :
    Oper.quiet P o a (fun w' => ∃ x, w' = ov w x) K = ∃ v, (∀ x, Oper.quietUpon P (fun w' => ∃ x, w' = ov w x) (ov w x) v ((execOp a.eval o).run P (ov w x))) ∧ K (a.put o.dst v) := by
  unfold Oper.quiet Oper.quietAt
  simp only [forall_exists_index, forall_eq_apply_imp_iff]

def aggOf : Value → Array Value | .agg c => c | _ => #[]
def idOk : Value → Prop := fun v => ∃ x : List UInt8, v = .agg (idB x) ∧ x.length = 32
@[go_sem] theorem aggOf_agg (c : Array Value) : aggOf (.agg c) = c := rfl
@[go_sem] theorem idOk_agg (x : List UInt8) (h : x.length = 32) : idOk (.agg (idB x)) := ⟨x, rfl, h⟩

end Go.Proofs.Ytchbpfkjhilgiaa
