/- '==' on ids. -/
import Derived.Test.YtcgioboiebanpaaE
import Derived.ChangeKeysEq
import Derived.ProofKit
import Derived.OpenShut
import Derived.ChangeArms
import Derived.ChangeSlices
import Derived.Deep.Slices
import Derived.Deep.Strs
import Derived.Laws.StructEq
namespace Go.Proofs.Ytcgioboiebanpaa
open Go.RowKit
set_option linter.unusedVariables false

theorem run_eqItems_bytes (d : Nat) (x y : List UInt8) (w : World) : ∀ is : List Nat, (∀ i ∈ is, i < x.length ∧ i < y.length) →
    (Op.eqItems (d + 1) 5 1 (idB x) (idB y) is).run Try.prog w = .ok (is.all fun i => x.getD i 0 == y.getD i 0) w
  | [], _ => by simp [Op.eqItems]
  | i :: is, h => by
    have h0 := h i (by simp)
    have ih := run_eqItems_bytes d x y w is (fun j hj => h j (by simp [hj]))
    have hp : Try.prog.plainKey 5 = true := by kernel_rfl
    have hu := Try.underlying5
    simp only [Op.eqItems, Sem.run_bind, Nat.mul_one, run_part_plain w hp (idB_get x i h0.1), run_part_plain w hp (idB_get y i h0.2), Result.andThen_ok,
      run_equalIn_int w d 5 .u8 .u8 _ _ Try.underlying5]
    have hbe : (((x.getD i 0).toNat : Int) == ((y.getD i 0).toNat : Int)) = (x.getD i 0 == y.getD i 0) := by
      by_cases hh : x.getD i 0 = y.getD i 0
      · rw [hh, beq_self_eq_true, beq_self_eq_true]
      · have : ¬ (((x.getD i 0).toNat : Int) = ((y.getD i 0).toNat : Int)) := fun e => hh (UInt8.toNat_inj.1 (by omega))
        rw [beq_eq_false_iff_ne.2 this, beq_eq_false_iff_ne.2 hh]
    rw [hbe]
    cases hq : (x.getD i 0 == y.getD i 0)
    · simp only [Bool.not_false, if_true, Sem.run_pure, List.all_cons, hq, Bool.false_and]
    · simp only [Bool.not_true, Bool.false_eq_true, if_false, ih, List.all_cons, hq, Bool.true_and]

theorem all_eq (x y : List UInt8) (hx : x.length = 32) (hy : y.length = 32) : ((List.range 32).all fun i => x.getD i 0 == y.getD i 0) = (x == y) := by
  by_cases h : x = y
  · subst h; simp
  · rw [beq_eq_false_iff_ne.2 h, List.all_eq_false]
    apply Classical.byContradiction
    intro hn
    apply h
    apply List.ext_getElem (by omega)
    intro i h1 h2
    apply Classical.byContradiction
    intro hne
    exact hn ⟨i, by simp; omega, by simpa [h1, h2] using hne⟩

theorem run_equalIn_ids (d : Nat) (x y : List UInt8) (w : World) (hx : x.length = 32) (hy : y.length = 32) :
    (Op.equalIn (d + 2) 24 (.agg (idB x)) (.agg (idB y))).run Try.prog w = .ok (x == y) w := by
  have hc : Try.prog.cellsOf 5 = 1 := by kernel_rfl
  obtain ⟨i, hi⟩ := info_of_underlying Try.underlying5
  rw [run_equalIn_array w (d + 1) (idB x) (idB y) Try.underlying24 hi, hc, run_eqItems_bytes d x y w _ (fun i hi => by simp at hi; omega), all_eq x y hx hy]

@[go_sem ↓] theorem run_eql_ids (x y : List UInt8) (w : World) (hx : x.length = 32) (hy : y.length = 32) :
    (binOp .eql 24 (.agg (idB x)) (.agg (idB y))).run Try.prog w = .ok (.bool (x == y)) w := by
  rw [run_eql_struct, show (10000 : Nat) = 9998 + 2 from rfl, run_equalIn_ids 9998 x y w hx hy]; rfl

@[go_sem ↓] theorem run_neq_ids (x y : List UInt8) (w : World) (hx : x.length = 32) (hy : y.length = 32) :
    (binOp .neq 24 (.agg (idB x)) (.agg (idB y))).run Try.prog w = .ok (.bool (!(x == y))) w := by
  rw [run_neq_struct, show (10000 : Nat) = 9998 + 2 from rfl, run_equalIn_ids 9998 x y w hx hy]; rfl

end Go.Proofs.Ytcgioboiebanpaa

namespace Go.Proofs.Ytcgioboiebanpaa
open Go.RowKit
set_option linter.unusedVariables false

set_option maxHeartbeats 2000000 in
set_option maxRecDepth 100000 in
theorem rkeys_any (t : Int) (c : List UInt8) (i : Int) (t' : Int) (c' : List UInt8) (i' : Int) (hc : c.length = 32) (hc' : c'.length = 32) (w : World) :
    Calls Try.prog 54 #[.agg (keyB t c i), .agg (keyB t' c' i')] w fun e w' => e = .returned (.int .i64 (keysCmp t c i t' c' i')) ∧ Below w.heap.size w w' := by
  have k1 : KeyAt ((w.alloc (.cells (keyB t c i) 26)).alloc (.cells (keyB t' c' i') 26)) w.heap.size t c i :=
    (Below.heap_alloc _ _ _ (by simp)).trans (MapKept.heap_alloc w _).1
  have k2 : KeyAt ((w.alloc (.cells (keyB t c i) 26)).alloc (.cells (keyB t' c' i') 26)) (w.heap.size + 1) t' c' i' := by
    have := (MapKept.heap_alloc (w.alloc (.cells (keyB t c i) 26)) (.cells (keyB t' c' i') 26)).1
    simp only [World.size_alloc] at this
    exact this
  have hb0 := ((Below.refl w.heap.size w).alloc (Nat.le_refl _) (.cells (keyB t c i) 26)).alloc (by simp) (.cells (keyB t' c' i') 26)
  have HG0 : keysCmp t c i t' c' i' = if t < t' then -1 else if t' < t then 1 else if Lib.compareBytes c c' ≠ 0 then Lib.compareBytes c c' else if i < i' then -1 else if i' < i then 1 else 0 := by
    unfold keysCmp or3 cmpInt
    split <;> rename_i h1
    · simp
    · split <;> rename_i h2
      · simp
      · simp
  generalize keysCmp t c i t' c' i' = R at *
  have HG := Lib.hid HG0
  clear HG0
  go_enter Try.func54, Try.ntmps54
  go_upto_region 1 with fail
  obtain ⟨W, hW⟩ : ∃ W, W = (w.alloc (.cells (keyB t c i) 26)).alloc (.cells (keyB t' c' i') 26) := ⟨_, rfl⟩
  rw [← hW] at k1 k2 hb0 ⊢
  have HW := Lib.hid (show W.heap.size = w.heap.size + 2 by rw [hW]; simp)
  clear hW
  have e1 := k1.c0
  have e2 := k2.c0
  have HB := Lib.hid hb0
  clear hb0
  by_cases h1 : t < t'
  · have hR : R = -1 := by rw [HG.out]; simp [h1]
    subst hR
    clear k1 k2
    go_wp2
    go_ret
    exact ⟨rfl, HB.out⟩
  by_cases h2 : t' < t
  · have hR : R = 1 := by rw [HG.out]; simp [h1, h2]
    subst hR
    clear k1 k2 hc hc' HG HW
    go_wp2
    go_ret
    exact ⟨rfl, HB.out⟩
  have HG2 : Hid (R = if Lib.compareBytes c c' ≠ 0 then Lib.compareBytes c c' else if i < i' then -1 else if i' < i then 1 else 0) := by
    exact Lib.hid (by rw [HG.out, if_neg h1, if_neg h2])
  clear HG
  have f1 := k1.fits hc
  have f2 := k2.fits hc'
  have g1 := k1.agg hc
  have g2 := k2.agg hc'
  have K1 := Lib.hid k1
  have K2 := Lib.hid k2
  clear k1 k2
  go_wp2_with fail
  refine (rcompare_any c c' hc hc' _).mono ?_
  rintro e w1 ⟨rfl, hb1⟩
  have HB1 := Lib.hid (HB.out.trans (hb1.mono (by rw [HW.out]; omega)))
  have e3 := (K1.out.below hb1).c33 hc
  have e4 := (K2.out.below hb1).c33 hc'
  clear hb1 f1 f2 g1 g2 e1 e2 
  clear h1 h2
  generalize Lib.compareBytes c c' = r at *
  by_cases h3 : r = 0
  · have HG3 : Hid (R = if i < i' then -1 else if i' < i then 1 else 0) := by
      exact Lib.hid (by rw [HG2.out]; simp [h3])
    clear HG2
    subst h3
    by_cases h4 : i < i'
    · have hR : R = -1 := by rw [HG3.out]; simp [h4]
      subst hR
      go_wp2
      go_ret
      exact ⟨rfl, HB1.out⟩
    by_cases h5 : i' < i
    · have hR : R = 1 := by rw [HG3.out]; simp [h4, h5]
      subst hR
      go_wp2
      go_ret
      exact ⟨rfl, HB1.out⟩
    · have hR : R = 0 := by rw [HG3.out]; simp [h4, h5]
      subst hR
      go_wp2
      go_ret
      exact ⟨rfl, HB1.out⟩
  · have hR : R = r := by rw [HG2.out]; simp [h3]
    subst hR
    go_wp2
    go_ret
    exact ⟨rfl, HB1.out⟩

end Go.Proofs.Ytcgioboiebanpaa

namespace Go.Proofs.Ytcgioboiebanpaa
open Go.RowKit
set_option linter.unusedVariables false

/-- A world that has all of w, and more. -/
def ov (w x : World) : World := { heap := w.heap ++ x.heap.extract w.heap.size x.heap.size, tape := w.tape, drawn := x.drawn, os := w.os, output := w.output }

theorem ov_block (w x : World) (k : Nat) (h : k < w.heap.size) : (ov w x).heap[k]? = w.heap[k]? := by
  simp only [ov]; rw [Array.getElem?_append_left h]
theorem ov_size (w x : World) : w.heap.size ≤ (ov w x).heap.size := by simp [ov]
theorem ov_below (w x : World) : Below w.heap.size w (ov w x) := ⟨rfl, rfl, rfl, ov_size w x, fun k h => ov_block w x k h⟩
theorem ov_of {w w' : World} (h : Below w.heap.size w w') : ∃ x, w' = ov w x := by
  refine ⟨w', ?_⟩
  obtain ⟨h1, h2, h3, h4, h5⟩ := h
  cases w' with
  | mk hp tp dr os out =>
    cases w with
    | mk hp' tp' dr' os' out' =>
      simp only at h1 h2 h3 h4 h5
      subst h1 h2 h3
      simp only [ov, World.mk.injEq, and_true]
      apply Array.ext_getElem?
      intro i
      by_cases hi : i < hp'.size
      · rw [Array.getElem?_append_left hi, h5 i hi]
      · rw [Array.getElem?_append_right (by omega), Array.getElem?_extract]
        by_cases h6 : i < hp.size
        · rw [if_pos (by omega)]; congr 1; omega
        · rw [if_neg (by omega), Array.getElem?_eq_none (by omega)]
theorem ov_drew (w : World) : ∃ x, w.drew = ov w x := ov_of (Below.refl _ _).drew
theorem ov_trans {w x w' : World} (h : Below (ov w x).heap.size (ov w x) w') : ∃ y, w' = ov w y := ov_of ((ov_below w x).trans (h.mono (ov_size w x)))

@[go_sem] theorem cell_ov (w x : World) (a : Addr) (h : a.block < w.heap.size) : (ov w x).cell? a = w.cell? a := by
  unfold World.cell?; rw [ov_block w x _ h]
@[go_sem] theorem fits_ov (w x : World) (a : Addr) (n : Nat) (h : fits w a n) : fits (ov w x) a n := fits_of_block (ov_block w x _ h.lt) h
@[go_sem] theorem agg_ov (w x : World) (a : Addr) (n : Nat) (h : fits w a n) : aggAt (ov w x) a n = aggAt w a n := aggAt_of_block (ov_block w x _ h.lt)
@[go_sem] theorem fits_drewN (w : World) (k : Nat) (a : Addr) (n : Nat) (h : fits w a n) : fits (w.drewN k) a n := h
@[go_sem] theorem agg_drewN (w : World) (k : Nat) (a : Addr) (n : Nat) : aggAt (w.drewN k) a n = aggAt w a n := rfl
@[go_sem] theorem fits_alloc (w : World) (o : Obj) (a : Addr) (n : Nat) (h : fits w a n) : fits (w.alloc o) a n := fits_of_block (Below.heap_alloc w o _ h.lt) h
@[go_sem] theorem agg_alloc (w : World) (o : Obj) (a : Addr) (n : Nat) (h : fits w a n) : aggAt (w.alloc o) a n = aggAt w a n := aggAt_of_block (Below.heap_alloc w o _ h.lt)

theorem Calls.over_of {P : Program} {f : FuncId} {args : Array Value} {w x : World} {v : Value}
    (h : Calls P f args (ov w x) fun e w' => e = .returned v ∧ Below (ov w x).heap.size (ov w x) w') : Calls P f args (ov w x) fun e w'' => e = .returned v ∧ ∃ y, w'' = ov w y :=
  h.mono fun _ _ ⟨he, hb⟩ => ⟨he, ov_trans hb⟩
theorem Calls.over_same {P : Program} {f : FuncId} {args : Array Value} {w x : World} {v : Value}
    (h : Calls P f args (ov w x) fun e w' => e = .returned v ∧ ov w x = w') : Calls P f args (ov w x) fun e w'' => e = .returned v ∧ ∃ y, w'' = ov w y :=
  h.mono fun _ _ ⟨he, hb⟩ => ⟨he, x, hb.symm⟩

theorem wp_region_over {P : Program} {id : Nat} {Q : Exit → Act → World → Prop} {a : Act} {w : World} {l : List Oper} (hm : P.follows .mixedOrders = true) (hB : Region.lexB .any l.toArray = true)
    (h : wpQuiet P l.toArray (fun w' => ∃ x, w' = ov w x) (fun a' => ∀ w', (∃ x, w' = ov w x) → Q .normal a' w') l a) : (Code.region id l.toArray true).wp P Q a w :=
  wp_region_quiet (C := fun w' => ∃ x, w' = ov w x) hm hB (ov_drew w) (by simpa using h)

/-- A region whose operations' words are a list; what an operation does to the world: more memory. -/
theorem wp_region_specsL {P : Program} {l : List Oper} {Q : Exit → Act → World → Prop} {a0 : Act} {w0 : World} {id : Nat} (D : List (List Nat)) (T : List (Option Tmp)) (L : List Nat) (Sl : List (Value → World → Prop)) (hm : P.follows .mixedOrders = true) (hok : specsOk l a0.tmps.size D T L = true)
    (hst : Stables (fun a b => Below a.heap.size a b) Sl)
    (hop : Obls P l T a0 (fun w => Below w0.heap.size w0 w) (fun _ _ => True) (fun _ a b => Below a.heap.size a b) (fun i => Sl.getD i anyv) 0 D l)
    (hend : ∀ vs w, Below w0.heap.size w0 w → DepH (fun i => Sl.getD i anyv) vs w L → Q .normal (putL T vs L a0) w) :
    (Code.region id l.toArray true).wp P Q a0 w0 :=
  wp_region_specs D T L (fun a b => Below a.heap.size a b) (fun i => Sl.getD i anyv) hm hok (below_drewN (Below.refl _ _) 1) (fun _ _ _ h1 h2 => h1.trans (h2.mono h1.size)) (Stables.get hst) hop hend

theorem opEnds_mk {R : Nat → World → World → Prop} {S : Nat → Value → World → Prop} {df : List Deferred} {w w' : World} {i : Nat} {o : Oper} {a : Act} {d : Tmp} {v : Value}
    (hd : o.dst = some d) (hv : a.tmps[d]? = some v) (hdf : a.defers = df) (hR : R i w w') (hS : S i v w') : OpEnds R S df w i o .normal a w' := by
  refine ⟨rfl, hdf, hR, ?_⟩
  unfold resOf
  simp only [hd, Array.getD_eq_getD_getElem?, hv, Option.getD_some]
  exact hS

@[go_sem ↓] theorem quiet_ov {P : Program} {o : Oper} {a : Act} {w : World} {K : Act → Prop} :
    Oper.quiet P o a (fun w' => ∃ x, w' = ov w x) K = ∃ v, (∀ x, Oper.quietUpon P (fun w' => ∃ x, w' = ov w x) (ov w x) v ((execOp a.eval o).run P (ov w x))) ∧ K (a.put o.dst v) := by
  unfold Oper.quiet Oper.quietAt
  simp only [forall_exists_index, forall_eq_apply_imp_iff]

def aggOf : Value → Array Value | .agg c => c | _ => #[]
def idOk : Value → Prop := fun v => ∃ x : List UInt8, v = .agg (idB x) ∧ x.length = 32
@[go_sem] theorem aggOf_agg (c : Array Value) : aggOf (.agg c) = c := rfl
@[go_sem] theorem idOk_agg (x : List UInt8) (h : x.length = 32) : idOk (.agg (idB x)) := ⟨x, rfl, h⟩

end Go.Proofs.Ytcgioboiebanpaa

namespace Go.Proofs.Ytcgioboiebanpaa
open Go.RowKit Go.WideShapes Go.ChangeShapes Go.ChangeMaps Go.Deep
set_option linter.unusedVariables false

theorem fits_of_cells {w : World} {b off n : Nat} {sp : Option Nat} {cs : List Value} (hn : 0 < n) (h : w.cells? 0 ⟨b, off, none⟩ n = some cs) :
    fits w ⟨b, off, none⟩ n ∧ (aggAt w ⟨b, off, none⟩ n).toList = cs ∧ cs.length = n := by
  obtain ⟨_, hlen, hc⟩ := World.cells?_some h
  have hadd : ∀ j, (⟨b, off, none⟩ : Addr).add j = ⟨b, off + j, none⟩ := fun j => by unfold Addr.add; split <;> simp_all
  have hl := hc (n - 1) (by omega)
  rw [hadd] at hl
  have hf : fits w ⟨b, off, none⟩ n := by
    have hx : ∃ v, w.cell? ⟨b, off + (n - 1), none⟩ = some v := by
      refine ⟨cs[n - 1]'(by omega), ?_⟩
      rw [hl]; simp
    obtain ⟨v, hv⟩ := hx
    unfold World.cell? at hv
    split at hv
    · rename_i c t fr hh
      simp at hv
      have := (Array.getElem?_eq_some_iff.1 hv).1
      exact ⟨rfl, c, t, fr, hh, by simp; omega⟩
    · cases hv
  refine ⟨hf, ?_, hlen⟩
  apply List.ext_getElem?
  intro j
  by_cases hj : j < n
  · have h1 := aggAt_get hf hj
    have h2 := hc j hj
    rw [hadd, h1] at h2
    simpa using h2
  · rw [List.getElem?_eq_none (by rw [Array.length_toList, aggAt_size hf]; omega), List.getElem?_eq_none (by omega)]

theorem slice_reads {H : Type} {enc : TypeId × Value → H} {P : Program} {W : World} {t e : TypeId} {n : Nat} {v : Value} {d : DataW H} {p : List MemPlace} {α : Type} [Inhabited α] (Is : List Value → α → Prop)
    (ht : P.underlying t = some (.slice e)) (hc : P.cellsOf e = n) (hn : 0 < n)
    (hIs : ∀ fuel cs x, DataW.trod enc P W 0 (fun _ => true) true fuel e cs = some x → ∃ a, Is cs a)
    (h : DataW.Trod enc P W 0 (fun _ => true) true t v d p) (hok : ∃ a len cap, v = .slice a len cap) :
    ∃ (a : Option Addr) (cap : Nat) (xs : List α), v = .slice a xs.length cap ∧ xs.length ≤ cap ∧ cap ≤ maxLen ∧ (a = none → xs = [] ∧ cap = 0) ∧
      (xs = [] ∨ ∃ b off, a = some ⟨b, off, none⟩ ∧ ∀ i, i < xs.length → fits W ⟨b, off + i * n, none⟩ n ∧ Is (aggAt W ⟨b, off + i * n, none⟩ n).toList (xs.getD i default)) := by
  obtain ⟨a0, len0, cap0, rfl⟩ := hok
  obtain ⟨fuel, hf⟩ := h
  rcases open_slice ht hf with ⟨hcs, _⟩ | ⟨a, len, cap, m, n', D, Pl, hcs, _, hl, hm, hmm, _, hx⟩
  · simp [Value.cells] at hcs
    obtain ⟨rfl, rfl, rfl⟩ := hcs
    exact ⟨none, 0, [], rfl, by simp, by unfold maxLen; omega, fun _ => ⟨rfl, rfl⟩, .inl rfl⟩
  · simp [Value.cells] at hcs
    obtain ⟨rfl, rfl, rfl⟩ := hcs
    simp only [if_true] at hmm
    subst hmm
    obtain ⟨V, hV⟩ := choose_lt (α := α) (n := len0) (p := fun i x => ∃ cs', W.cells? 0 (a.add (i * n)) n = some cs' ∧ Is cs' x) (fun i hi => by
      obtain ⟨cs', h1, h2⟩ := hx i (by omega)
      obtain ⟨x, hx⟩ := hIs _ _ _ h2
      rw [hc] at h1
      exact ⟨x, cs', h1, hx⟩)
    refine ⟨some a, m, (List.range len0).map V, by simp, by simpa using hl, hm, (fun h => by cases h), ?_⟩
    by_cases h0 : len0 = 0
    · subst h0; exact .inl (by simp)
    right
    obtain ⟨b, off, sp⟩ := a
    have hsp : sp = none := by
      obtain ⟨cs', h1, _⟩ := hV 0 (by omega)
      obtain ⟨_, hlen, hcc⟩ := World.cells?_some h1
      have h2 := hcc 0 hn
      have h3 : cs'[0]? = some (cs'[0]'(by omega)) := by simp
      rw [h3] at h2
      cases sp with
      | none => rfl
      | some s => simp [World.cell?, Addr.add] at h2; split at h2 <;> simp at h2
    subst hsp
    have hadd : ∀ j, (⟨b, off, none⟩ : Addr).add j = ⟨b, off + j, none⟩ := fun j => by unfold Addr.add; split <;> simp_all
    refine ⟨b, off, rfl, fun i hi => ?_⟩
    simp only [List.length_map, List.length_range] at hi
    obtain ⟨cs', h1, h2⟩ := hV i hi
    rw [hadd] at h1
    obtain ⟨h3, h4, h5⟩ := fits_of_cells (sp := none) hn h1
    refine ⟨h3, ?_⟩
    rw [h4]
    simpa [hi] using h2

theorem cells5 : Try.prog.cellsOf 5 = 1 := by kernel_rfl
theorem cells23 : Try.prog.cellsOf 24 = 32 := by kernel_rfl

theorem trod_id {H : Type} {enc : TypeId × Value → H} {W : World} {fuel : Nat} {cs : List Value} {x : DataW H × List MemPlace}
    (h : DataW.trod enc Try.prog W 0 (fun _ => true) true fuel 24 cs = some x) : ∃ z : List UInt8, z.length = 32 ∧ cs = Lib.byteCells z := by
  obtain ⟨xs, m, _, _, hl, hx, hi⟩ := DataW.trod_array Try.underlying24 h
  rw [cells23] at hl
  rw [cells5] at hi
  have hb : ∀ i, i < 32 → ∃ c : UInt8, cs[i]? = some (.int .u8 c.toNat) := fun i h32 => by
    have h1 := hi i h32
    have hc : cs[i]? = some (cs[i]'(by omega)) := by simp
    have hd : (cs.drop (i * 1)).take 1 = [cs[i]'(by omega)] := by
      rw [Nat.mul_one, List.drop_eq_getElem_cons (by omega), List.take_succ_cons, List.take_zero]
    rw [hd] at h1
    generalize cs[i]'(by omega) = u at *
    have h3 : xs[i]? = some (xs[i]'(by omega)) := by simp
    rw [h3] at h1
    have h2 : ∃ n, u = .int .u8 n ∧ (Lit.int .u8 n).wf = true := by
      cases m with
      | zero => simp [DataW.trod] at h1
      | succ m =>
        unfold DataW.trod at h1
        rw [Try.underlying5] at h1
        split at h1 <;> simp_all
    obtain ⟨n, rfl, hw⟩ := h2
    have hb := bounds_u8 hw
    exact ⟨UInt8.ofNat n.toNat, by rw [hc]; simp; omega⟩
  obtain ⟨V, hV⟩ := choose_lt (α := UInt8) (n := 32) (p := fun i c => cs[i]? = some (.int .u8 c.toNat)) hb
  refine ⟨(List.range 32).map V, by simp, ?_⟩
  apply List.ext_getElem?
  intro j
  by_cases hj : j < 32
  · rw [hV j hj]; simp [Lib.byteCells, hj]
  · rw [List.getElem?_eq_none (by omega), List.getElem?_eq_none (by simp [Lib.byteCells]; omega)]

/-- An argument that is an id. -/
theorem reads_id {H : Type} {enc : TypeId × Value → H} {W : World} {v : Value} {d : DataW H} {p : List MemPlace}
    (hok : ∃ cs, v = .agg cs) (h : DataW.Trod enc Try.prog W 0 (fun _ => true) true 24 v d p) : ∃ z : List UInt8, z.length = 32 ∧ v = .agg (idB z) := by
  obtain ⟨cs, rfl⟩ := hok
  obtain ⟨fuel, hf⟩ := h
  obtain ⟨z, hl, hz⟩ := trod_id hf
  refine ⟨z, hl, ?_⟩
  simp only [Value.cells] at hz
  unfold idB
  rw [← hz]

set_option maxRecDepth 100000 in
theorem trod_key {H : Type} {enc : TypeId × Value → H} {W : World} {fuel : Nat} {cs : List Value} {x : DataW H × List MemPlace}
    (h : DataW.trod enc Try.prog W 0 (fun _ => true) true fuel 26 cs = some x) : ∃ (t : Int) (c : List UInt8) (i : Int), c.length = 32 ∧ cs = (keyB t c i).toList ∧ (Lit.int .i64 t).wf = true ∧ (Lit.int .i64 i).wf = true := by
  have hi : ∀ fuel (l : List Value) x, DataW.trod enc Try.prog W 0 (fun _ => true) true fuel 3 l = some x → ∃ n, l = [.int .i64 n] ∧ (Lit.int .i64 n).wf = true := fun fuel l x hx => by
    cases fuel with
    | zero => simp [DataW.trod] at hx
    | succ m =>
      unfold DataW.trod at hx
      rw [Try.underlying3] at hx
      split at hx <;> simp_all
  obtain ⟨y0, y1, y2, n, _, hl, h0, h1, h2⟩ := trod_struct3 Try.underlying26 h
  obtain ⟨t, e0, w0⟩ := hi _ _ _ h0
  obtain ⟨c, hc, e1⟩ := trod_id h1
  obtain ⟨i, e2, w2⟩ := hi _ _ _ h2
  refine ⟨t, c, i, hc, ?_, w0, w2⟩
  have c3 : Try.prog.cellsOf 3 = 1 := by kernel_rfl
  have c25 : Try.prog.cellsOf 26 = 34 := by kernel_rfl
  rw [c25] at hl
  simp only [c3, cells23] at e0 e1 e2
  rw [keyB_list]
  simp only [← e0, ← e1, ← e2]
  have a1 := List.take_append_drop 1 cs
  have a2 := List.take_append_drop 32 (cs.drop 1)
  rw [List.drop_drop] at a2
  have a3 : (cs.drop 33).take 1 = cs.drop 33 := List.take_of_length_le (by simp; omega)
  simp only [List.drop_zero]
  rw [a3, List.append_assoc, a2, a1]

theorem reads_key {H : Type} {enc : TypeId × Value → H} {W : World} {v : Value} {d : DataW H} {p : List MemPlace}
    (hok : ∃ cs, v = .agg cs) (h : DataW.Trod enc Try.prog W 0 (fun _ => true) true 26 v d p) : ∃ (t : Int) (c : List UInt8) (i : Int), c.length = 32 ∧ v = .agg (keyB t c i) := by
  obtain ⟨cs, rfl⟩ := hok
  obtain ⟨fuel, hf⟩ := h
  obtain ⟨t, c, i, hl, hz, _, _⟩ := trod_key hf
  refine ⟨t, c, i, hl, ?_⟩
  simp only [Value.cells] at hz
  rw [show cs = keyB t c i from Array.ext' hz]

end Go.Proofs.Ytcgioboiebanpaa

namespace Go.Proofs.Ytcgioboiebanpaa
open Go.RowKit Go.WideShapes Go.ChangeShapes Go.ChangeMaps
set_option linter.unusedVariables false

def keyEq (t : Int) (c : List UInt8) (i : Int) (t' : Int) (c' : List UInt8) (i' : Int) : Bool := (t == t') && ((c == c') && (i == i'))

theorem run_part_id (xs : Array Value) (off : Nat) (w : World) : (part 24 xs off).run Try.prog w = .ok (.agg (xs.extract off (off + 32))) w := by
  have h : (Try.prog.info? 24).map (·.size) = some 32 := by kernel_rfl
  cases hq : Try.prog.info? 24 with
  | none => rw [hq] at h; cases h
  | some i =>
    have hs : i.size = 32 := by simpa [hq] using h
    simp [part, isAgg, run_underlying Try.underlying24, sizeOf, typeInfo, hq, hs]

theorem eq3 (t t' : Int) (w : World) : (Op.equalIn (9998 + 1) 3 (.int .i64 t) (.int .i64 t')).run Try.prog w = .ok (t == t') w := run_equalIn_int w 9998 3 .i64 .i64 _ _ Try.underlying3
theorem eq23 (c c' : List UInt8) (w : World) (hc : c.length = 32) (hc' : c'.length = 32) : (Op.equalIn (9997 + 2) 24 (.agg (idB c)) (.agg (idB c'))).run Try.prog w = .ok (c == c') w := run_equalIn_ids 9997 c c' w hc hc'
theorem fields25 : Try.prog.fieldsOf 26 = #[⟨"Time", 3, 0, false, "", "", 0⟩, ⟨"Change", 24, 1, false, "", "", 8⟩, ⟨"Index", 3, 33, false, "", "", 40⟩] := by kernel_rfl
theorem u25 : Try.prog.underlying 26 = some (.struct (Try.prog.fieldsOf 26)) := by kernel_rfl
theorem held25 : Try.prog.stoodInHeld 26 = false := by kernel_rfl
theorem eqF (d : Nat) (t : Int) (c : List UInt8) (i : Int) (t' : Int) (c' : List UInt8) (i' : Int) (w : World) (hc : c.length = 32) (hc' : c'.length = 32)
    (e1 : (Op.equalIn d 3 (.int .i64 t) (.int .i64 t')).run Try.prog w = .ok (t == t') w) (e2 : (Op.equalIn d 24 (.agg (idB c)) (.agg (idB c'))).run Try.prog w = .ok (c == c') w)
    (e3 : (Op.equalIn d 3 (.int .i64 i) (.int .i64 i')).run Try.prog w = .ok (i == i') w) :
    (Op.eqFields d (keyB t c i) (keyB t' c' i') (Try.prog.fieldsOf 26).toList).run Try.prog w = .ok (keyEq t c i t' c' i') w := by
  have hp3 : Try.prog.plainKey 3 = true := by kernel_rfl
  have p1 := run_part_plain w hp3 (keyB_0 t c i)
  have p2 := run_part_plain w hp3 (keyB_0 t' c' i')
  have p3 := run_part_plain w hp3 (keyB_33 t c i hc)
  have p4 := run_part_plain w hp3 (keyB_33 t' c' i' hc')
  have p5 := run_part_id (keyB t c i) 1 w
  have p6 := run_part_id (keyB t' c' i') 1 w
  rw [show 1 + 32 = 33 from rfl, keyB_id t c i hc] at p5
  rw [show 1 + 32 = 33 from rfl, keyB_id t' c' i' hc'] at p6
  rw [fields25]
  simp only [Op.eqFields, Sem.run_bind, Sem.run_ite, p1, p2, p3, p4, p5, p6, e1, e2, e3, Result.andThen_ok, Sem.run_pure, keyEq]
  cases h1 : (t == t') <;> cases h2 : (c == c') <;> cases h3 : (i == i') <;> simp

@[go_sem ↓] theorem run_eql_keys (t : Int) (c : List UInt8) (i : Int) (t' : Int) (c' : List UInt8) (i' : Int) (w : World) (hc : c.length = 32) (hc' : c'.length = 32) :
    (binOp .eql 26 (.agg (keyB t c i)) (.agg (keyB t' c' i'))).run Try.prog w = .ok (.bool (keyEq t c i t' c' i')) w := by
  have e1 := eq3 t t' w
  have e2 := eq23 c c' w hc hc'
  have e3 := eq3 i i' w
  rw [run_eql_struct, show (10000 : Nat) = 9998 + 1 + 1 from rfl, run_equalIn_struct w (9998 + 1) 26 _ _ u25 held25, eqF (9998 + 1) t c i t' c' i' w hc hc' e1 e2 e3]
  rfl

end Go.Proofs.Ytcgioboiebanpaa
