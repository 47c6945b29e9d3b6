/- Worlds over a world: what a call that only adds memory leaves; regions whose operations only read or call such calls, in whatever order. -/
import Derived.Test.YtmmmimkikakalaaT
import Derived.Laws.Tables
import Derived.IntWalk
import Derived.Test.YtmmmimkikakalaaP
namespace Go.Proofs.Ytmmmimkikakalaa
open Go.RowKit
set_option linter.unusedVariables false

/-- A world that has all of w, and more. -/
def ov (w x : World) : World := { heap := w.heap ++ x.heap.extract w.heap.size x.heap.size, tape := w.tape, drawn := x.drawn, os := w.os, output := w.output }

theorem ov_block (w x : World) (k : Nat) (h : k < w.heap.size) : (ov w x).heap[k]? = w.heap[k]? := by
  simp only [ov]; rw [Array.getElem?_append_left h]
theorem ov_size (w x : World) : w.heap.size ≤ (ov w x).heap.size := by simp [ov]
theorem ov_below (w x : World) : Below w.heap.size w (ov w x) := ⟨rfl, rfl, rfl, ov_size w x, fun k h => ov_block w x k h⟩
theorem ov_of {w w' : World} (h : Below w.heap.size w w') : ∃ x, w' = ov w x := by
  refine ⟨w', ?_⟩
  obtain ⟨h1, h2, h3, h4, h5⟩ := h
  cases w' with
  | mk hp tp dr os out =>
    cases w with
    | mk hp' tp' dr' os' out' =>
      simp only at h1 h2 h3 h4 h5
      subst h1 h2 h3
      simp only [ov, World.mk.injEq, and_true]
      apply Array.ext_getElem?
      intro i
      by_cases hi : i < hp'.size
      · rw [Array.getElem?_append_left hi, h5 i hi]
      · rw [Array.getElem?_append_right (by omega), Array.getElem?_extract]
        by_cases h6 : i < hp.size
        · rw [if_pos (by omega)]; congr 1; omega
        · rw [if_neg (by omega), Array.getElem?_eq_none (by omega)]
theorem ov_drew (w : World) : ∃ x, w.drew = ov w x := ov_of (Below.refl _ _).drew
theorem ov_trans {w x w' : World} (h : Below (ov w x).heap.size (ov w x) w') : ∃ y, w' = ov w y := ov_of ((ov_below w x).trans (h.mono (ov_size w x)))

@[go_sem] theorem cell_ov (w x : World) (a : Addr) (h : a.block < w.heap.size) : (ov w x).cell? a = w.cell? a := by
  unfold World.cell?; rw [ov_block w x _ h]
@[go_sem] theorem fits_ov (w x : World) (a : Addr) (n : Nat) (h : fits w a n) : fits (ov w x) a n := fits_of_block (ov_block w x _ h.lt) h
@[go_sem] theorem agg_ov (w x : World) (a : Addr) (n : Nat) (h : fits w a n) : aggAt (ov w x) a n = aggAt w a n := aggAt_of_block (ov_block w x _ h.lt)
@[go_sem] theorem fits_drewN (w : World) (k : Nat) (a : Addr) (n : Nat) (h : fits w a n) : fits (w.drewN k) a n := h
@[go_sem] theorem agg_drewN (w : World) (k : Nat) (a : Addr) (n : Nat) : aggAt (w.drewN k) a n = aggAt w a n := rfl
@[go_sem] theorem fits_alloc (w : World) (o : Obj) (a : Addr) (n : Nat) (h : fits w a n) : fits (w.alloc o) a n := fits_of_block (Below.heap_alloc w o _ h.lt) h
@[go_sem] theorem agg_alloc (w : World) (o : Obj) (a : Addr) (n : Nat) (h : fits w a n) : aggAt (w.alloc o) a n = aggAt w a n := aggAt_of_block (Below.heap_alloc w o _ h.lt)

theorem Calls.over_of {P : Program} {f : FuncId} {args : Array Value} {w x : World} {v : Value}
    (h : Calls P f args (ov w x) fun e w' => e = .returned v ∧ Below (ov w x).heap.size (ov w x) w') : Calls P f args (ov w x) fun e w'' => e = .returned v ∧ ∃ y, w'' = ov w y :=
  h.mono fun _ _ ⟨he, hb⟩ => ⟨he, ov_trans hb⟩
theorem Calls.over_same {P : Program} {f : FuncId} {args : Array Value} {w x : World} {v : Value}
    (h : Calls P f args (ov w x) fun e w' => e = .returned v ∧ ov w x = w') : Calls P f args (ov w x) fun e w'' => e = .returned v ∧ ∃ y, w'' = ov w y :=
  h.mono fun _ _ ⟨he, hb⟩ => ⟨he, x, hb.symm⟩

theorem wp_region_over {P : Program} {id : Nat} {Q : Exit → Act → World → Prop} {a : Act} {w : World} {l : List Oper} (hm : P.follows .mixedOrders = true) (hB : Region.lexB .any l.toArray = true)
    (h : wpQuiet P l.toArray (fun w' => ∃ x, w' = ov w x) (fun a' => ∀ w', (∃ x, w' = ov w x) → Q .normal a' w') l a) : (Code.region id l.toArray true).wp P Q a w :=
  wp_region_quiet (C := fun w' => ∃ x, w' = ov w x) hm hB (ov_drew w) (by simpa using h)

/-- A region whose operations' words are a list; what an operation does to the world: more memory. -/
theorem wp_region_specsL {P : Program} {l : List Oper} {Q : Exit → Act → World → Prop} {a0 : Act} {w0 : World} {id : Nat} (D : List (List Nat)) (T : List (Option Tmp)) (L : List Nat) (Sl : List (Value → World → Prop)) (hm : P.follows .mixedOrders = true) (hok : specsOk l a0.tmps.size D T L = true)
    (hst : Stables (fun a b => Below a.heap.size a b) Sl)
    (hop : Obls P l T a0 (fun w => Below w0.heap.size w0 w) (fun _ _ => True) (fun _ a b => Below a.heap.size a b) (fun i => Sl.getD i anyv) 0 D l)
    (hend : ∀ vs w, Below w0.heap.size w0 w → DepH (fun i => Sl.getD i anyv) vs w L → Q .normal (putL T vs L a0) w) :
    (Code.region id l.toArray true).wp P Q a0 w0 :=
  wp_region_specs D T L (fun a b => Below a.heap.size a b) (fun i => Sl.getD i anyv) hm hok (below_drewN (Below.refl _ _) 1) (fun _ _ _ h1 h2 => h1.trans (h2.mono h1.size)) (Stables.get hst) hop hend

theorem opEnds_mk {R : Nat → World → World → Prop} {S : Nat → Value → World → Prop} {df : List Deferred} {w w' : World} {i : Nat} {o : Oper} {a : Act} {d : Tmp} {v : Value}
    (hd : o.dst = some d) (hv : a.tmps[d]? = some v) (hdf : a.defers = df) (hR : R i w w') (hS : S i v w') : OpEnds R S df w i o .normal a w' := by
  refine ⟨rfl, hdf, hR, ?_⟩
  unfold resOf
  simp only [hd, Array.getD_eq_getD_getElem?, hv, Option.getD_some]
  exact hS

@[go_sem ↓] theorem quiet_ov {P : Program} {o : Oper} {a : Act} {w : World} {K : Act → Prop} :
    Oper.quiet P o a (fun w' => ∃ x, w' = ov w x) K = ∃ v, (∀ x, Oper.quietUpon P (fun w' => ∃ x, w' = ov w x) (ov w x) v ((execOp a.eval o).run P (ov w x))) ∧ K (a.put o.dst v) := by
  unfold Oper.quiet Oper.quietAt
  simp only [forall_exists_index, forall_eq_apply_imp_iff]

def aggOf : Value → Array Value | .agg c => c | _ => #[]
def idOk : Value → Prop := fun v => ∃ x : List UInt8, v = .agg (idB x) ∧ x.length = 32
@[go_sem] theorem aggOf_agg (c : Array Value) : aggOf (.agg c) = c := rfl
@[go_sem] theorem idOk_agg (x : List UInt8) (h : x.length = 32) : idOk (.agg (idB x)) := ⟨x, rfl, h⟩

/-- '[]Id{x}'. -/
@[go_sem ↓] theorem build30 (f : Operand → Value) (y : Operand) (dst : Option Tmp) (ty' : TypeId) (pos : String) (after : Array Edge) (guard : Option (Nat × Bool)) (w : World) (hy : idOk (f y)) :
    (execOp f ⟨dst, .buildSlice 30 1 #[(0, y)], ty', pos, after, guard⟩).run Try.prog w = .ok (.value (.slice (some ⟨w.heap.size, 0, none⟩) 1 1)) (w.alloc (.cells (aggOf (f y)) 24)) := by
  obtain ⟨x, hx, hl⟩ := hy
  have hi := info23
  cases hq : Try.prog.info? 24 with
  | none => rw [hq] at hi; cases hi
  | some i =>
    rw [hq] at hi
    simp only [Option.map_some, Option.some.injEq, Prod.mk.injEq] at hi
    obtain ⟨hz0, hz1, hz2⟩ := hi
    unfold execOp
    have hr := run_buildSlice (P := Try.prog) w 30 24 1 (#[(0, y)].map fun (i, x) => (i, f x)) (idB x) i _ Try.underlying30 hq hz0 (by rw [hz1]; omega) (by rw [hz1]; omega) (by
      have := fill_ids [x] 0 ((Array.range (1 * 32)).map (fun j => (Value.agg (Array.replicate 32 (.int .u8 0))).cells[j % (Value.agg (Array.replicate 32 (.int .u8 0))).cells.size]!)).toList (by simpa using hl) (by simp)
      rw [Array.toArray_toList] at this
      rw [hz1]
      refine Eq.trans ?_ (this.trans (by simp [idsC, idB]))
      simp [idParts, hx])
    simp only [Sem.run_bind, hr, Result.andThen_ok, hx, aggOf_agg]
    rfl

end Go.Proofs.Ytmmmimkikakalaa

namespace Go.Proofs.Ytmmmimkikakalaa
open Go.RowKit
set_option linter.unusedVariables false

theorem idB_one (x : List UInt8) : (idB x).all (·.oneCell') = true := by
  rw [Array.all_eq_true_iff_forall_mem]
  intro v hv
  have : v ∈ Lib.byteCells x := by simpa [idB] using hv
  obtain ⟨c, _, rfl⟩ := List.mem_map.1 this
  rfl
theorem setRow_alloc (w : World) (old cells : Array Value) (t : TypeId) : (w.alloc (.cells old t)).setRow w.heap.size cells = w.alloc (.cells cells t) := by
  unfold World.setRow World.alloc
  congr 1
  apply Array.ext_getElem?
  intro i
  simp only [Array.getElem?_modify, Array.getElem?_push]
  by_cases h : w.heap.size = i
  · subst h; simp
  · have h' : ¬ i = w.heap.size := fun e => h e.symm
    simp [h, h']

@[go_sem ↓] theorem store23 (f : Operand → Value) (x y : Operand) (dst : Option Tmp) (ty' : TypeId) (pos : String) (after : Array Edge) (guard : Option (Nat × Bool)) (w : World) (old : Array Value)
    (hp : f x = .pointer (some ⟨w.heap.size, 0, none⟩)) (hy : idOk (f y)) (ho : old.size = 32) :
    (execOp f ⟨dst, .store 24 x y, ty', pos, after, guard⟩).run Try.prog (w.alloc (.cells old 24)) = .ok .skip (w.alloc (.cells (aggOf (f y)) 24)) := by
  obtain ⟨z, hz, hl⟩ := hy
  have hsz : (idB z).size = 32 := by rw [idB_size, hl]
  have h23 : (Try.prog.info? 24).map (·.size) = some 32 := by kernel_rfl
  have hr := run_storeVar_row (P := Try.prog) (w.alloc (.cells old 24)) w.heap.size 24 24 old (idB z) (MapKept.heap_alloc w _).1 (by rw [h23, hsz]) (by rw [ho, hsz]) (idB_one z)
  unfold execOp
  simp only [hp, hz, Instr.storeAt, Instr.sureAddr, Sem.run_bind, Sem.run_pure, Result.andThen_ok, hr, setRow_alloc, aggOf_agg]

/-- One id more, if it is not the last one again. -/
def ddF (out : List (List UInt8)) (x : List UInt8) : List (List UInt8) := if out = [] ∨ out.getLastD [] ≠ x then out ++ [x] else out
/-- order.Set. -/
def setL (xs : List (List UInt8)) : List (List UInt8) := (msort xs).foldl ddF []

set_option maxHeartbeats 1000000 in
set_option maxRecDepth 100000 in
theorem set_any (a : Option Addr) (cap : Nat) (xs : List (List UInt8)) (w : World) (hcap : xs.length ≤ cap) (hcm : cap ≤ maxLen) (hm : xs.length ≤ 1000000) (hin : IdsIn w a xs) (hn : a = none → xs = [] ∧ cap = 0) :
    Calls Try.prog 20 #[.slice a xs.length cap] w fun e w' => ∃ v, e = .returned v ∧ rowI w.heap.size (setL xs) v w' ∧ Below w.heap.size w w' := by
  have H := Lib.hid (sort_any a cap xs w hcap hcm hm hin hn)
  have h32 := Lib.hid hin.1
  have HM := Lib.hid hm
  clear hcap hcm hm hin hn
  go_enter Try.func20, Try.ntmps20
  go_wp2_with fail
  refine H.out.mono ?_
  rintro e w1 ⟨v, rfl, ho, hb⟩
  have HS := Lib.hid (SlI_row (msort_32 h32.out) ho)
  have HB := Lib.hid hb
  clear ho hb
  obtain ⟨a1, c1, rfl, q1, q2, q3, q4⟩ := HS.out
  have Q3 := Lib.hid q3
  have HL := Lib.hid (msort_length xs)
  unfold maxLen at q2
  clear q3 q4
  go_wp2_with fail
  go_loopg [3, 9] (msort xs).length (fun g vo i wr => ∃ (k : Nat) (O : List (List UInt8)), g + k = (msort xs).length ∧ i = .int .i64 k ∧ O = ((msort xs).take k).foldl ddF [] ∧ rowI w1.heap.size O vo wr ∧ O.length ≤ k ∧ (∀ x ∈ O, x.length = 32) ∧ Below w1.heap.size w1 wr)
  case atStart => exact ⟨0, [], by omega, rfl, by simp, ⟨by simp [idsC], .inl ⟨rfl, rfl⟩⟩, by simp, by simp, Below.refl _ _⟩
  case round =>
    obtain ⟨k, O, hg, rfl, hO, hrow, hlen, hO32, hb⟩ := hrel
    have HG := Lib.hid hg
    have HO := Lib.hid hO
    have HR := Lib.hid hrow
    have HLE := Lib.hid hlen
    have HO32 := Lib.hid hO32
    have HB1 := Lib.hid hb
    clear hg hO hrow hlen hO32 hb
    by_cases hk : k < (msort xs).length
    · rcases Q3.out.2 with h0 | ⟨b, off, rfl, hc⟩
      · rw [h0] at hk; simp at hk
      obtain ⟨e1, e2⟩ := IdAt.below (hc k hk) HB1.out
      have hx := msort_32 h32.out _ (getD_mem hk)
      have HT := Lib.hid (take_snoc [] (msort xs) k hk)
      generalize (msort xs).getD k [] = x at *
      clear hc
      have e7 := fits_new wr (idB x) 24 32 (by rw [idB_size, hx])
      have e8 := aggAt_new wr (idB x) 24 32 (by rw [idB_size, hx])
      obtain ⟨a2, c2, rfl, p1, p2, p3, p4⟩ := SlI_row HO32.out HR.out
      unfold maxLen at p2
      obtain ⟨wz, hwz⟩ : ∃ wz, wz = wr.alloc (.cells (idB x) 24) := ⟨_, rfl⟩
      have hbz := (Below.refl wr.heap.size wr).alloc (Nat.le_refl _) (.cells (idB x) 24)
      by_cases hO0 : O = []
      · have i0 : O.length = 0 := by rw [hO0]; rfl
        have HO0 := Lib.hid hO0
        clear hO0
        go_wp2_with fail
        rw [← hwz] at e7 e8 hbz ⊢
        have HBZ := Lib.hid (HB1.out.trans (hbz.mono HB1.out.size))
        have HRZ := Lib.hid (rowI_st _ _ _ _ _ HR.out hbz)
        have HI0 := Lib.hid i0
        clear hwz hbz i0
        have i1 : ((O.length : Int) == 0) = true := by simp [HI0.out]
        refine wp_region_over (by kernel_rfl) (by kernel_rfl) ?_
        repeat (go_big_quiet_step (fail))
        refine wpQuiet_nil ?_
        rintro _ ⟨x0, rfl⟩
        clear i1
        have HBQ := Lib.hid (HBZ.out.trans ((ov_below wz x0).mono HBZ.out.size))
        have HRQ := Lib.hid (rowI_st _ _ _ _ _ HRZ.out (ov_below wz x0))
        have g7 := fits_ov wz x0 _ _ e7
        have g8 := (agg_ov wz x0 _ _ e7).trans e8
        generalize ov wz x0 = wq at *
        obtain ⟨O1, hO1⟩ : ∃ O1, O1 = O ++ [x] := ⟨_, rfl⟩
        have HO1 := Lib.hid hO1
        have HC := Lib.hid (show (O : List (List UInt8)).length + [x].length ≤ 4000000 by have := HLE.out; have := HM.out; have := HL.out; simp only [List.length_cons, List.length_nil] at *; omega)
        clear hO1 e7 e8
        have HNEW := Lib.hid (one_new (w := wq) hx)
        have hbn := (Below.refl wq.heap.size wq).alloc (Nat.le_refl _) (.cells (idB x) 24)
        have HRN := Lib.hid (rowI_st _ _ _ _ _ HRQ.out hbn)
        have HBN := Lib.hid (HBQ.out.trans (hbn.mono HBQ.out.size))
        clear hbn
        go_wp2_with (at_builtin; refine wpList_append_to rfl _ _ rfl w1.heap.size _ O [x] O1 HO1.out rfl HRN.out _ 1 rfl HNEW.out (fun e => by cases e) HC.out HBN.out.size ?_)
        rintro vo1 w3 ho1 hb1
        have HOW := Lib.hid ho1
        have HB3 := Lib.hid (HBN.out.trans hb1)
        clear ho1 hb1
        go_wp2
        go_roundg (gk - 1)
        case measure => have := HG.out; omega
        case rel => exact ⟨k + 1, O1, by have := HG.out; omega, by go_num, by rw [HT.out, List.foldl_append, ← HO.out, HO1.out]; simp [ddF, HO0.out], HOW.out, by rw [HO1.out]; have := HLE.out; simp only [List.length_append, List.length_cons, List.length_nil] at *; omega, fun z hz => by rw [HO1.out] at hz; rcases List.mem_append.1 hz with hz | hz; exact HO32.out z hz; rw [List.mem_singleton.1 hz]; exact hx, HB3.out⟩
      · have hpos : 0 < O.length := by cases O; exact absurd rfl hO0; simp
        rcases p3.2 with h0 | ⟨b2, o2, rfl, hc2⟩
        · exact absurd h0 hO0
        obtain ⟨e5, e6⟩ := hc2 (O.length - 1) (by omega)
        have hy := HO32.out _ (getD_mem (by omega : O.length - 1 < O.length))
        obtain ⟨y, hye⟩ : ∃ y, y = O.getD (O.length - 1) [] := ⟨_, rfl⟩
        rw [← hye] at e6 hy
        have HY := Lib.hid hye
        obtain ⟨q, hq⟩ : ∃ q : Bool, (y == x) = q := ⟨_, rfl⟩
        have HQ := Lib.hid hq
        have HN0 := Lib.hid hO0
        have i1 : 0 < (O.length : Int) := by omega
        have i2 : ((O.length : Int) == 0) = false := by simp; omega
        have i4 : O ≠ [] := hO0
        have i5 : ((O.length : Int) - 1).toNat = O.length - 1 := by omega
        have i6 : IntKind.i64.wrap ((O.length : Int) - 1) = (O.length : Int) - 1 := IntWalk.i64_in _ (by omega)
        clear hye hq hc2
        go_wp2_with fail
        rw [← hwz] at e7 e8 hbz ⊢
        have e9 := IdAt.below ⟨e5, e6⟩ hbz
        clear e5 e6
        obtain ⟨e5, e6⟩ := e9
        have HBZ := Lib.hid (HB1.out.trans (hbz.mono HB1.out.size))
        have HRZ := Lib.hid (rowI_st _ _ _ _ _ HR.out hbz)
        clear hwz hbz
        refine wp_region_over (by kernel_rfl) (by kernel_rfl) ?_
        repeat (go_big_quiet_step (fail))
        refine wpQuiet_nil ?_
        rintro _ ⟨x0, rfl⟩
        rw [show (y == x) = q from HQ.out]
        clear e5 e6 i1 i2 i4 i5 i6 hO0
        have HYL := Lib.hid (show O.getLastD [] = y by rw [HY.out, List.getLastD_eq_getLast?, List.getLast?_eq_getElem?, List.getD_eq_getElem?_getD])
        cases q with
        | false =>
          have HNE := Lib.hid (show y ≠ x from fun e => by have := HQ.out; simp [e] at this)
          have HBQ := Lib.hid (HBZ.out.trans ((ov_below wz x0).mono HBZ.out.size))
          have HRQ := Lib.hid (rowI_st _ _ _ _ _ HRZ.out (ov_below wz x0))
          have g7 := fits_ov wz x0 _ _ e7
          have g8 := (agg_ov wz x0 _ _ e7).trans e8
          generalize ov wz x0 = wq at *
          obtain ⟨O1, hO1⟩ : ∃ O1, O1 = O ++ [x] := ⟨_, rfl⟩
          have HO1 := Lib.hid hO1
          have HC := Lib.hid (show (O : List (List UInt8)).length + [x].length ≤ 4000000 by have := HLE.out; have := HM.out; have := HL.out; simp only [List.length_cons, List.length_nil] at *; omega)
          clear hO1 e7 e8
          have HNEW := Lib.hid (one_new (w := wq) hx)
          have hbn := (Below.refl wq.heap.size wq).alloc (Nat.le_refl _) (.cells (idB x) 24)
          have HRN := Lib.hid (rowI_st _ _ _ _ _ HRQ.out hbn)
          have HBN := Lib.hid (HBQ.out.trans (hbn.mono HBQ.out.size))
          clear hbn
          go_wp2_with (at_builtin; refine wpList_append_to rfl _ _ rfl w1.heap.size _ O [x] O1 HO1.out rfl HRN.out _ 1 rfl HNEW.out (fun e => by cases e) HC.out HBN.out.size ?_)
          rintro vo1 w3 ho1 hb1
          have HOW := Lib.hid ho1
          have HB3 := Lib.hid (HBN.out.trans hb1)
          clear ho1 hb1
          go_wp2
          go_roundg (gk - 1)
          case measure => have := HG.out; omega
          case rel => exact ⟨k + 1, O1, by have := HG.out; omega, by go_num, by rw [HT.out, List.foldl_append, ← HO.out, HO1.out]; simp only [List.foldl_cons, List.foldl_nil, ddF]; rw [if_pos (.inr (by rw [HYL.out]; exact HNE.out))], HOW.out, by rw [HO1.out]; have := HLE.out; simp only [List.length_append, List.length_cons, List.length_nil] at *; omega, fun z hz => by rw [HO1.out] at hz; rcases List.mem_append.1 hz with hz | hz; exact HO32.out z hz; rw [List.mem_singleton.1 hz]; exact hx, HB3.out⟩
        | true =>
          have HEQ := Lib.hid (show y = x from by have := HQ.out; simpa using this)
          have HBQ := Lib.hid (HBZ.out.trans ((ov_below wz x0).mono HBZ.out.size))
          have HRQ := Lib.hid (rowI_st _ _ _ _ _ HRZ.out (ov_below wz x0))
          clear e7 e8
          go_wp2
          go_roundg (gk - 1)
          case measure => have := HG.out; omega
          case rel => exact ⟨k + 1, O, by have := HG.out; omega, by go_num, by rw [HT.out, List.foldl_append, ← HO.out]; simp only [List.foldl_cons, List.foldl_nil, ddF]; rw [if_neg (by rw [HYL.out]; intro h; rcases h with h | h; exact HN0.out h; exact h HEQ.out)], HRQ.out, by have := HLE.out; omega, HO32.out, HBQ.out⟩
    · have HKE := Lib.hid (show k = (msort xs).length by have := HG.out; omega)
      go_wp2
      go_ret
      have hOe : O = setL xs := by rw [HO.out, HKE.out, List.take_length]; rfl
      exact ⟨_, rfl, by rw [← hOe]; exact ownsRow_base HR.out HB.out.size, HB.out.trans (HB1.out.mono HB.out.size)⟩

end Go.Proofs.Ytmmmimkikakalaa

namespace Go.Proofs.Ytmmmimkikakalaa
open Go.RowKit
set_option linter.unusedVariables false

/-- How many cells a block has. -/
def szAt (w : World) (b : Nat) : Option Nat := match w.heap[b]? with | some (.cells c _ fr) => if fr = (0, 0) then some c.size else none | _ => none
@[go_sem] theorem szAt_alloc (w : World) (c : Array Value) (t : TypeId) (b : Nat) : szAt (w.alloc (.cells c t)) b = if b = w.heap.size then some c.size else szAt w b := by
  split
  · next h => subst h; unfold szAt; rw [(MapKept.heap_alloc w _).1]; rfl
  · next h =>
    unfold szAt
    by_cases hb : b < w.heap.size
    · rw [Below.heap_alloc w _ b hb]
    · rw [Array.getElem?_eq_none (by simp; omega), Array.getElem?_eq_none (by omega)]
@[go_sem] theorem setRow_here (w : World) (old c : Array Value) (t : TypeId) (b : Nat) (h : b = w.heap.size) : (w.alloc (.cells old t)).setRow b c = w.alloc (.cells c t) := by
  subst h; exact setRow_alloc w old c t
@[go_sem] theorem setRow_under (w : World) (o : Obj) (c : Array Value) (b : Nat) (h : b < w.heap.size) : (w.alloc o).setRow b c = (w.setRow b c).alloc o := by
  unfold World.setRow World.alloc
  congr 1
  apply Array.ext_getElem?
  intro i
  simp only [Array.getElem?_modify, Array.getElem?_push]
  by_cases h1 : b = i
  · subst h1
    have h' : ¬ b = w.heap.size := by omega
    simp [h']
  · simp [h1]
@[go_sem] theorem setRow_size (w : World) (b : Nat) (c : Array Value) : (w.setRow b c).heap.size = w.heap.size := by simp [World.setRow]

@[go_sem ↓] theorem store23g (f : Operand → Value) (x y : Operand) (dst : Option Tmp) (ty' : TypeId) (pos : String) (after : Array Edge) (guard : Option (Nat × Bool)) (w : World)
    (hp : isPtr (f x) = true) (hf : (addrOf (f x)).off = 0) (hs : (addrOf (f x)).spot = none) (ho : szAt w (addrOf (f x)).block = some 32) (hy : idOk (f y)) :
    (execOp f ⟨dst, .store 24 x y, ty', pos, after, guard⟩).run Try.prog w = .ok .skip (w.setRow (addrOf (f x)).block (aggOf (f y))) := by
  obtain ⟨z, hz, hl⟩ := hy
  have hsz : (idB z).size = 32 := by rw [idB_size, hl]
  have h23 : (Try.prog.info? 24).map (·.size) = some 32 := by kernel_rfl
  cases hfx : f x with
  | pointer a =>
    cases a with
    | none => rw [hfx] at hp; simp [isPtr] at hp
    | some a =>
      obtain ⟨b, o, s⟩ := a
      rw [hfx] at hf hs ho
      simp only [addrOf_ptr] at hf hs ho
      subst hf hs
      unfold szAt at ho
      split at ho
      · rename_i c t fr hh
        split at ho
        case isFalse => cases ho
        rename_i hfr
        subst hfr
        simp only [Option.some.injEq] at ho
        have hr := run_storeVar_row (P := Try.prog) w b t 24 c (idB z) hh (by rw [h23, hsz]) (by rw [ho, hsz]) (idB_one z)
        unfold execOp
        simp only [hfx, hz, Instr.storeAt, Instr.sureAddr, Sem.run_bind, Sem.run_pure, Result.andThen_ok, hr, aggOf_agg, addrOf_ptr]
      · cases ho
  | _ => rw [hfx] at hp; simp [isPtr] at hp

def oneId (k : UInt8) : List UInt8 := k :: List.replicate 31 0
theorem oneId_32 (k : UInt8) : (oneId k).length = 32 := by simp [oneId]

theorem run_exec_build {P : Program} {t : TypeId} {cells : Array Value} (f : Operand → Value) (parts : Array (Nat × Operand)) (dst : Option Tmp) (ty' : TypeId) (pos : String) (after : Array Edge) (guard : Option (Nat × Bool)) (w : World)
    (h : P.built t (parts.map fun (i, x) => (i, f x)).toList = some cells) :
    (execOp f ⟨dst, .build t parts, ty', pos, after, guard⟩).run P w = .ok (.value (.agg cells)) w := by
  unfold execOp
  simp only [Sem.run_bind, run_build w t _ cells h, Result.andThen_ok]
  rfl

end Go.Proofs.Ytmmmimkikakalaa
