/- put. -/
import Derived.Test.YtcgioboiebanpaaNp
namespace Go.Proofs.Ytcgioboiebanpaa
open Go.RowKit Go.Maps
set_option linter.unusedVariables false

theorem runB_enc (x : RV) : (runR.enc x).toArray = runB x := by show (runB x).toList.toArray = _; simp
theorem size70 : (Try.prog.info? 70).map (·.size) = some 36 := by kernel_rfl
theorem put_list {xs : List RV} {x y : RV} {i : Nat} (hi : i < xs.length) : ((xs ++ [y]).take (i + 1) ++ ((xs ++ [y]).drop i).take (xs.length - i)).set i x = xs.take i ++ x :: xs.drop i := by
  rw [List.take_append_of_le_length (by omega), List.drop_append_of_le_length (by omega), List.take_append_of_le_length (by simp), List.take_of_length_le (l := xs.drop i) (by simp), List.take_succ_eq_append_getElem hi, List.append_assoc]
  rw [List.set_append_right _ _ (by simp; omega)]
  simp [Nat.min_eq_left (Nat.le_of_lt hi)]
set_option maxRecDepth 100000 in
theorem slice64_from {p : Option Addr} {l c : Nat} (n : Nat) (hn : n ≤ l) (wx : World) : (Instr.slice 64 (.slice p l c) (some (.int .i64 (n : Int))) none none).run Try.prog wx = .ok (.slice (if c = n then p else p.map (·.add (n * 36))) (l - n) (c - n)) wx := by
  have hsz : (sizeOf (Try.prog.elem 64)).run Try.prog wx = .ok 36 wx := by
    have h := size70
    have e : Try.prog.info? (Try.prog.elem 64) = Try.prog.info? 70 := rfl
    cases hq : Try.prog.info? 70 with
    | none => rw [hq] at h; cases h
    | some i => rw [hq] at h; simp at h; simp [sizeOf, typeInfo, e, hq, Sem.run_bind, h]
  rw [run_slice_l wx 64 p l c (by kernel_rfl) .i64 n (by omega) (by omega), hsz]
  simp [sliced]
theorem shift64 {base g n cap i : Nat} {O : List RV} {W : World} (hn : O.length = n + 1) (hi : i ≤ n) (hcap : n + 1 ≤ cap) (h : runR.row 70 base O (.slice (some ⟨g, 0, none⟩) (n + 1) cap) W) :
    ∃ pd cd ps cs k W3 O', (∀ wx, (Instr.slice 64 (.slice (some ⟨g, 0, none⟩) (n + 1) cap) (some (.int .i64 ((i : Int) + 1))) none none).run Try.prog wx = .ok (.slice pd (n - i) cd) wx) ∧
      (∀ wx, (Instr.slice 64 (.slice (some ⟨g, 0, none⟩) (n + 1) cap) (some (.int .i64 (i : Int))) none none).run Try.prog wx = .ok (.slice ps (n + 1 - i) cs) wx) ∧
      (∀ ty, (Builtin.copy_ #[64, 64] ty #[.slice pd (n - i) cd, .slice ps (n + 1 - i) cs]).run Try.prog W = .ok (goInt k) W3) ∧
      runR.row 70 base O' (.slice (some ⟨g, 0, none⟩) (n + 1) cap) W3 ∧ W.grownBy W3 (some g) ∧ O'.length = n + 1 ∧ (i < n → O' = O.take (i + 1) ++ (O.drop i).take (n - i)) ∧ (i = n → O' = O) := by
  have e1 := fun wx => slice64_from (p := some ⟨g, 0, none⟩) (l := n + 1) (c := cap) (i + 1) (by omega) wx
  have e2 := fun wx => slice64_from (p := some ⟨g, 0, none⟩) (l := n + 1) (c := cap) i (by omega) wx
  simp only [Int.natCast_add, Int.cast_ofNat_Int, show n + 1 - (i + 1) = n - i by omega] at e1
  by_cases hin : i < n
  · rw [if_neg (by omega)] at e1 e2
    simp only [Option.map_some, Addr.add_lit, Nat.zero_add] at e1 e2
    obtain ⟨W3, h1, h2, h3⟩ := copy_in rn64 (c1 := cap - (i + 1)) (c2 := cap - i) hn hin h
    exact ⟨_, _, _, _, _, W3, _, e1, e2, h1, h2, h3, by rw [List.length_append, List.length_take, List.length_take, List.length_drop, hn]; omega, fun _ => rfl, fun e => by omega⟩
  · refine ⟨_, _, _, _, 0, W, O, e1, e2, fun ty => ?_, h, ⟨rfl, rfl, rfl, Nat.le_refl _, fun _ _ _ => rfl⟩, hn, fun e => absurd e hin, fun _ => rfl⟩
    rw [show n - i = 0 by omega]
    exact copy_none rn64 W _ _ _ _ _ ty
theorem own_d {xs : List RV} {d : Nat} {v : Value} {w : World} (h : runR.row 70 (d + 1) xs v w) : v.ownBlock ≠ some d := fun e => by have := (row_own h e).1; omega
set_option maxHeartbeats 2000000 in
set_option maxRecDepth 100000 in
theorem put_any (d i : Nat) (v : Value) (size live : Int) (xs : List RV) (x : RV) (w : World) (hx : x.1.2.1.length = 32) (hi : i ≤ xs.length) (hlen : xs.length ≤ 1000000)
    (hd : w.heap[d]? = some (.cells #[v, .int .i64 size, .int .i64 live] 66 (0, 0))) (hrow : runR.row 70 (d + 1) xs v w) :
    Calls Try.prog 45 #[.pointer (some ⟨d, 0, none⟩), .int .i64 (i : Int), .agg (runB x)] w fun e w' => e = .returned (.tuple #[]) ∧ ∃ v', w'.heap[d]? = some (.cells #[v', .int .i64 size, .int .i64 live] 66 (0, 0)) ∧ runR.row 70 (d + 1) (xs.take i ++ x :: xs.drop i) v' w' ∧ Step d v v' w w' := by
  obtain ⟨W, hW⟩ : ∃ W, W = w.alloc (.cells (runB x) 70) := ⟨_, rfl⟩
  obtain ⟨bx, hbx⟩ : ∃ b, b = w.heap.size := ⟨_, rfl⟩
  have q1 := (Below.refl w.heap.size w).alloc (Nat.le_refl _) (.cells (runB x) 70)
  rw [← hW] at q1
  have HXB := Lib.hid (show W.heap[bx]? = some (.cells (runB x) 70 (0, 0)) by rw [hW, hbx]; exact (MapKept.heap_alloc w _).1)
  have HSZ := Lib.hid (show W.heap.size = w.heap.size + 1 by rw [hW]; simp)
  have hdl : d < w.heap.size := (Array.getElem?_eq_some_iff.1 hd).1
  have HDB := Lib.hid ((q1.block d hdl).trans hd)
  have HROW := Lib.hid (hrow.below q1)
  have HST := Lib.hid (show Step d v v w W from .of_below q1)
  have HDL := Lib.hid hdl
  have HBX := Lib.hid (show bx ≠ d ∧ bx < W.heap.size ∧ v.ownBlock ≠ some bx by
    refine ⟨by omega, by have := HSZ.out; omega, fun e => ?_⟩
    obtain ⟨_, cur, he⟩ := row_own hrow e
    have := (Array.getElem?_eq_some_iff.1 he).1
    omega)
  have hc0 : W.cell? ⟨d, 0, none⟩ = some v := by rw [Lib.cell_of_heap HDB.out]; rfl
  have HHX := Lib.hid hx
  have HI := Lib.hid hi
  have HLEN := Lib.hid hlen
  clear q1 hd hrow hdl hx hi hlen
  go_enter Try.func45, Try.ntmps45
  go_upto_region 1 with fail
  rw [← hW, ← hbx]
  clear hW hbx
  have HA := Lib.hid (Rec.In.one (R := runR) W 70 run0 (show (List.replicate 32 (0 : UInt8)).length = 32 from rfl))
  rw [runB_enc] at HA
  have hB1 := (Below.refl W.heap.size W).alloc (Nat.le_refl _) (.cells (runB run0) 70)
  have HB1 := Lib.hid hB1
  have HR1 := Lib.hid (HROW.out.below hB1)
  have HS1 := Lib.hid (show d + 1 ≤ (W.alloc (.cells (runB run0) 70)).heap.size by have := HDL.out; have := HSZ.out; have := hB1.size; omega)
  have hlenn : xs.length + [run0].length ≤ 100000000 := by have := HLEN.out; simp; omega
  have HLN := Lib.hid hlenn
  have HD1 := Lib.hid ((hB1.block d (Array.getElem?_eq_some_iff.1 HDB.out).1).trans HDB.out)
  have HX1 := Lib.hid ((hB1.block bx HBX.out.2.1).trans HXB.out)
  have HT1 := Lib.hid (HST.out.trans (Step.of_below (d := d) (v := v) hB1))
  clear hB1 hlenn
  go_upto_region 2 with (at_builtin; refine wpList_appF rn64 rfl _ _ rfl (d + 1) v xs [run0] (xs ++ [run0]) rfl rfl HR1.out ⟨W.heap.size, 0, none⟩ 1 rfl HA.out (by decide) HLN.out HS1.out ?_; intro v1 w1 a1 a2 a3 a4; obtain ⟨g, cap, hv1, hcap, hcm, hgd, hgl⟩ := Rec.row.some (by simp) a1; rw [List.length_append, List.length_singleton] at hv1 hcap; subst hv1; have hd1 := (a2.block d (Array.getElem?_eq_some_iff.1 HD1.out).1 (fun e => own_d HR1.out e.symm)).trans HD1.out; have z0 := Lib.frozen_of_heap hd1 0; have z1 : w1.cell? ⟨d, 0, none⟩ = some v := by (rw [Lib.cell_of_heap hd1]; rfl))
  have HD2 := Lib.hid (heap_setCell_at (off := 0) hd1 (.slice (some ⟨g, 0, none⟩) (xs.length + 1) cap))
  have HG := Lib.hid hgd
  have HOWN := Lib.hid (show Step d v (.slice (some ⟨g, 0, none⟩) (xs.length + 1) cap) w w1 from HT1.out.trans ⟨a2.os, a2.tape, a2.output, a2.size, fun k hk _ hv => a2.block k hk (fun e => hv e.symm), a4.imp id (fun e => ⟨_, e, Nat.le_refl _⟩)⟩)
  have HX2 := Lib.hid ((heap_setCell_ne w1 d 0 bx (.slice (some ⟨g, 0, none⟩) (xs.length + 1) cap) HBX.out.1).trans ((a2.block bx (Array.getElem?_eq_some_iff.1 HX1.out).1 (fun e => HBX.out.2.2 e.symm)).trans HX1.out))
  have HT2 := Lib.hid (HOWN.out.trans (Step.cell w1 0 (.slice (some ⟨g, 0, none⟩) (xs.length + 1) cap)))
  have HR2 := Lib.hid (row_keep (w' := w1.setCell ⟨d, 0, none⟩ (.slice (some ⟨g, 0, none⟩) (xs.length + 1) cap)) a1 (fun k hk => heap_setCell_ne w1 d 0 k _ (fun e => by have := (row_own a1 hk).1; omega)))
  generalize w1.setCell ⟨d, 0, none⟩ (.slice (some ⟨g, 0, none⟩) (xs.length + 1) cap) = W2 at *
  have hn1 : (xs ++ [run0]).length = xs.length + 1 := by simp
  have HN1 := Lib.hid hn1
  have HCAP := Lib.hid hcap
  have HBN := Lib.hid (show bx ≠ g by
    rintro rfl
    rcases a4 with h | h
    · exact HBX.out.2.2 h.symm
    · have h2 := HBX.out.2.1
      injection h with h
      have h3 : bx = W.heap.size + 1 := Eq.trans h (by simp)
      omega)
  clear a1 a2 a3 a4 hd1 z0 z1 hcm hgd hgl HOWN hc0 hn1 HA HR1 HS1 HLN HD1 HX1 HT1
  have c0 : W2.cell? ⟨d, 0, none⟩ = some (.slice (some ⟨g, 0, none⟩) (xs.length + 1) cap) := by rw [Lib.cell_of_heap HD2.out]; rfl
  have hbd := (Below.refl W2.heap.size W2).drew
  obtain ⟨W9, hW9⟩ : ∃ W9, W9 = W2.drew := ⟨_, rfl⟩
  rw [← hW9] at hbd
  obtain ⟨pd, cd, ps, cs, kk, W3, O', e1, e2, e3, e4, e5, e6, e7, e8⟩ := shift64 HN1.out HI.out HCAP.out (HR2.out.below hbd)
  have HE4 := Lib.hid e4
  have HE6 := Lib.hid e6
  have HSET := Lib.hid (show O'.set i x = xs.take i ++ x :: xs.drop i by
    rcases Nat.lt_or_eq_of_le HI.out with h | h
    · rw [e7 h]; exact put_list h
    · rw [e8 h, h]; simp)
  have HT3 := Lib.hid ((HT2.out.trans (Step.of_below hbd)).trans (Step.grown (d := d) (v := .slice (some ⟨g, 0, none⟩) (xs.length + 1) cap) e5))
  have HX3 := Lib.hid ((e5.block bx (Nat.lt_of_lt_of_le (Array.getElem?_eq_some_iff.1 HX2.out).1 hbd.size) (by simpa using HBN.out)).trans ((hbd.block bx (Array.getElem?_eq_some_iff.1 HX2.out).1).trans HX2.out))
  have HD3 := Lib.hid ((e5.block d (Nat.lt_of_lt_of_le (Array.getElem?_eq_some_iff.1 HD2.out).1 hbd.size) (by have := HG.out; simp; omega)).trans ((hbd.block d (Array.getElem?_eq_some_iff.1 HD2.out).1).trans HD2.out))
  have w1 : IntKind.i64.wrap ((i : Int) + 1) = (i : Int) + 1 := IntWalk.i64_in _ (by have := HI.out; have := HLEN.out; omega)
  clear hbd e4 e5 e6 e7 e8
  go_upto_region 2 with fail
  go_still_tail 13, (by kernel_rfl)
  change wpList _ _ _ _ _ W2.drew
  rw [← hW9]
  clear hW9 c0 e1 e2
  go_upto_region 3 with fail
  clear e3
  have i1 : (i : Int) < (xs.length : Int) + 1 := by have := HI.out; omega
  have hbd := (Below.refl W3.heap.size W3).drew
  have HR4 := Lib.hid (HE4.out.below hbd)
  have HT4 := Lib.hid (HT3.out.trans (Step.of_below hbd))
  have HD4 := Lib.hid ((hbd.block d (Array.getElem?_eq_some_iff.1 HD3.out).1).trans HD3.out)
  have HX4 := Lib.hid ((hbd.block bx (Array.getElem?_eq_some_iff.1 HX3.out).1).trans HX3.out)
  have hk1 : i < O'.length := by rw [HE6.out]; have := HI.out; omega
  have HK1 := Lib.hid hk1
  clear hbd hk1
  refine wp_region_still_tail 7 (by kernel_rfl) (by kernel_rfl) ?_
  change wpStill _ _ W3.drew (fun a' => wpList _ _ _ _ a' W3.drew) _ _
  generalize W3.drew = W4 at *
  have c0 : W4.cell? ⟨d, 0, none⟩ = some (.slice (some ⟨g, 0, none⟩) (xs.length + 1) cap) := by rw [Lib.cell_of_heap HD4.out]; rfl
  have f1 := (blk_ld HX4.out (runB_size x HHX.out)).1
  have f2 := (blk_ld HX4.out (runB_size x HHX.out)).2
  simp only [List.take_succ_cons, List.take_zero, List.drop_succ_cons, List.drop_zero]
  repeat still_step
  refine wpStill_nil ?_
  clear c0 f1 f2
  go_wp2_with (refine wpList_put (R := runR) size70 rfl _ _ rfl (d + 1) g (xs.length + 1) cap i O' x HHX.out HK1.out HR4.out rfl (by rw [runB_enc]; rfl) ?_)
  intro w5 b1 b2
  go_wp2
  refine bodyPost_end (results_none rfl _ _ _) rfl ?_
  refine ⟨rfl, _, (b2.block d (Array.getElem?_eq_some_iff.1 HD4.out).1 (by have := HG.out; simp; omega)).trans HD4.out, by rw [← HSET.out]; exact b1, HT4.out.trans (Step.grown (d := d) (v := .slice (some ⟨g, 0, none⟩) (xs.length + 1) cap) b2)⟩
end Go.Proofs.Ytcgioboiebanpaa

namespace Go.Proofs.Ytcgioboiebanpaa
open Go.RowKit Go.Maps
set_option linter.unusedVariables false

theorem split36 (cs : List Value) (hc : cs.length = 36) : ∃ D x y, cs = D ++ [x, y] ∧ D.length = 34 := by
  refine ⟨cs.take 34, cs[34]'(by omega), cs[35]'(by omega), ?_, by rw [List.length_take]; omega⟩
  apply List.ext_getElem?
  intro i
  by_cases hi : i < 34
  · rw [List.getElem?_append_left (by rw [List.length_take]; omega), List.getElem?_take_of_lt hi]
  · rw [List.getElem?_append_right (by rw [List.length_take]; omega)]
    have h9 : (cs.take 34).length = 34 := by rw [List.length_take]; omega
    rw [h9]
    match i, hi with
    | 34, _ => simp [hc]
    | 35, _ => simp [hc]
    | i + 36, _ => rw [List.getElem?_eq_none (by omega)]; simp
theorem fill70 (K : List Value) (hK : K.length = 34) (ka vs : Value) (ha : ka.cells = K.toArray) (hs : vs.cells = #[vs]) (pl : Nat → Option (Nat × Nat)) (h0 : pl 0 = some (0, 34)) (h1 : pl 1 = some (34, 1)) (D : List Value) (x y : Value) (hD : D.length = 34) (rest : List (Nat × Value)) :
    Instr.fill pl (D ++ [x, y]).toArray ((0, ka) :: (1, vs) :: rest) = Instr.fill pl (K ++ [vs, y]).toArray rest := by
  rw [fill_one (off := 0) (sz := 34) (c := K) h0 ha hK (by simp; omega)]
  have e1 : (D ++ [x, y]).take 0 ++ K ++ (D ++ [x, y]).drop (0 + 34) = K ++ [x, y] := by
    rw [List.take_zero, List.nil_append, Nat.zero_add, List.drop_append, List.drop_of_length_le (by omega), hD]; rfl
  rw [e1, fill_one (off := 34) (sz := 1) (c := [vs]) h1 (by rw [hs]) rfl (by simp; omega)]
  have e2 : (K ++ [x, y]).take 34 ++ [vs] ++ (K ++ [x, y]).drop (34 + 1) = K ++ [vs, y] := by
    rw [List.take_append, List.take_of_length_le (by omega), List.drop_append, List.drop_of_length_le (by omega), hK]; simp
  rw [e2]
theorem fill70b (K : List Value) (hK : K.length = 34) (vs vb y : Value) (hb : vb.cells = #[vb]) (pl : Nat → Option (Nat × Nat)) (h2 : pl 2 = some (35, 1)) :
    Instr.fill pl (K ++ [vs, y]).toArray [(2, vb)] = some (K ++ [vs, vb]).toArray := by
  rw [fill_one (off := 35) (sz := 1) (c := [vb]) h2 (by rw [hb]) rfl (by simp; omega)]
  have e3 : (K ++ [vs, y]).take 35 ++ [vb] ++ (K ++ [vs, y]).drop (35 + 1) = K ++ [vs, vb] := by
    rw [List.take_append, List.take_of_length_le (by omega), List.drop_append, List.drop_of_length_le (by omega), hK]; simp
  rw [e3]
  rfl
theorem built70 (parts : List (Nat × Value)) : Try.prog.built 70 parts = Instr.fill (fun i => ([(0, 34), (34, 1), (35, 1)] : List (Nat × Nat)).toArray[i]?) (runB run0) parts := by kernel_rfl
def keyOk (v : Value) : Prop := ∃ t c i, v = .agg (keyB t c i) ∧ c.length = 32
def isSl (v : Value) : Prop := ∃ a n c, v = .slice a n c
def isBo (v : Value) : Prop := ∃ b, v = .bool b
@[go_sem] theorem keyOk_mk (t : Int) (c : List UInt8) (i : Int) (h : c.length = 32) : keyOk (.agg (keyB t c i)) := ⟨t, c, i, rfl, h⟩
@[go_sem] theorem isSl_mk (a : Option Addr) (n c : Nat) : isSl (.slice a n c) := ⟨_, _, _, rfl⟩
@[go_sem] theorem isBo_mk (b : Bool) : isBo (.bool b) := ⟨_, rfl⟩
theorem run0_list : ∃ D x, runB run0 = (D ++ [x, .bool false]).toArray ∧ D.length = 34 := by
  refine ⟨(keyB 0 (List.replicate 32 0) 0).toList, .slice none 0 0, ?_, by rw [Array.length_toList, keyB_size]; rfl⟩
  apply Array.ext'
  simp [runB, run0]
@[go_sem ↓] theorem bld70_3 (f : Operand → Value) (a b c : Operand) (dst : Option Tmp) (ty' : TypeId) (pos : String) (after : Array Edge) (guard : Option (Nat × Bool)) (w : World) (ha : keyOk (f a)) (hb : isSl (f b)) (hc : isBo (f c)) :
    (execOp f ⟨dst, .build 70 #[(0, a), (1, b), (2, c)], ty', pos, after, guard⟩).run Try.prog w = .ok (.value (.agg (aggOf (f a) ++ #[f b, f c]))) w := by
  obtain ⟨t, k, i, hx, hl⟩ := ha
  have hb' : (f b).cells = #[f b] := by obtain ⟨a, n, c, h⟩ := hb; rw [h]; rfl
  have hc' : (f c).cells = #[f c] := by obtain ⟨s, h⟩ := hc; rw [h]; rfl
  have hs : (keyB t k i).toList.length = 34 := by rw [Array.length_toList, keyB_size, hl]
  have hbt : Try.prog.built 70 ((#[(0, a), (1, b), (2, c)] : Array (Nat × Operand)).map fun (i, x) => (i, f x)).toList = some (aggOf (f a) ++ #[f b, f c]) := by
    obtain ⟨D, x, h0, hD⟩ := run0_list
    rw [built70, h0]
    have h1 := fill70 (keyB t k i).toList hs (f a) (f b) (by rw [hx]; simp [Value.cells]) hb' (fun i => ([(0, 34), (34, 1), (35, 1)] : List (Nat × Nat)).toArray[i]?) rfl rfl D x (.bool false) hD [(2, f c)]
    have h2 := fill70b (keyB t k i).toList hs (f b) (f c) (.bool false) hc' (fun i => ([(0, 34), (34, 1), (35, 1)] : List (Nat × Nat)).toArray[i]?) rfl
    refine Eq.trans ?_ (h1.trans (h2.trans ?_))
    · simp
    · rw [hx, aggOf_agg]
      congr 1
      apply Array.ext'
      simp
  unfold execOp
  simp only [Sem.run_bind, run_build w 70 _ _ hbt, Result.andThen_ok]
  rfl
@[go_sem ↓] theorem bld70_2 (f : Operand → Value) (a b : Operand) (dst : Option Tmp) (ty' : TypeId) (pos : String) (after : Array Edge) (guard : Option (Nat × Bool)) (w : World) (ha : keyOk (f a)) (hb : isSl (f b)) :
    (execOp f ⟨dst, .build 70 #[(0, a), (1, b)], ty', pos, after, guard⟩).run Try.prog w = .ok (.value (.agg (aggOf (f a) ++ #[f b, .bool false]))) w := by
  obtain ⟨t, k, i, hx, hl⟩ := ha
  have hb' : (f b).cells = #[f b] := by obtain ⟨a, n, c, h⟩ := hb; rw [h]; rfl
  have hs : (keyB t k i).toList.length = 34 := by rw [Array.length_toList, keyB_size, hl]
  have hbt : Try.prog.built 70 ((#[(0, a), (1, b)] : Array (Nat × Operand)).map fun (i, x) => (i, f x)).toList = some (aggOf (f a) ++ #[f b, .bool false]) := by
    obtain ⟨D, x, h0, hD⟩ := run0_list
    rw [built70, h0]
    have h1 := fill70 (keyB t k i).toList hs (f a) (f b) (by rw [hx]; simp [Value.cells]) hb' (fun i => ([(0, 34), (34, 1), (35, 1)] : List (Nat × Nat)).toArray[i]?) rfl rfl D x (.bool false) hD []
    refine Eq.trans ?_ (h1.trans ?_)
    · simp
    · rw [hx, aggOf_agg]
      show some _ = some _
      congr 1
      apply Array.ext'
      simp
  unfold execOp
  simp only [Sem.run_bind, run_build w 70 _ _ hbt, Result.andThen_ok]
  rfl
theorem runB_eq (t : Int) (c : List UInt8) (i : Int) (a : Option Addr) (n k : Nat) (b : Bool) : keyB t c i ++ #[.slice a n k, .bool b] = runB ((t, c, i), (a, n, k), b) := rfl

/-- A block of a run, laid since. -/
def N70 (base : Nat) (w : World) (k : Nat) : Prop := base ≤ k ∧ ∃ cur, w.heap[k]? = some (.cells cur 70 (0, 0)) ∧ cur.size = 36
/-- What an operation of such a region does: A lays the variable, S fills it. -/
structure rb70 (base A S j : Nat) (w w' : World) : Prop where
  b : Below base w w'
  o : j ≠ S → Below w.heap.size w w'
  n : j ≠ A → ∀ k, N70 base w' k ↔ N70 base w k
  a : j = A → ∀ k, N70 base w' k ↔ (N70 base w k ∨ k = w.heap.size)
def bx70 (base : Nat) : Value → World → Prop := fun v w => ∃ g, v = .pointer (some ⟨g, 0, none⟩) ∧ ∀ k, N70 base w k ↔ k = g
def lit70 (base : Nat) (x : RV) : Value → World → Prop := fun _ w => ∃ g, base ≤ g ∧ w.heap[g]? = some (.cells (runB x) 70 (0, 0))
theorem bx70_st {base A S j : Nat} {v : Value} {w w' : World} (hj : j ≠ A) (h : bx70 base v w) (hr : rb70 base A S j w w') : bx70 base v w' := by
  obtain ⟨g, rfl, h⟩ := h
  exact ⟨g, rfl, fun k => (hr.n hj k).trans (h k)⟩
theorem lit70_st {base A S j : Nat} {x : RV} {v : Value} {w w' : World} (hj : j ≠ S) (h : lit70 base x v w) (hr : rb70 base A S j w w') : lit70 base x v w' := by
  obtain ⟨g, hg, h⟩ := h
  exact ⟨g, hg, ((hr.o hj).block g (Array.getElem?_eq_some_iff.1 h).1).trans h⟩
theorem n70_new {W : World} (k : Nat) : ¬ N70 W.heap.size W k := by
  rintro ⟨h, cur, hc, _⟩
  have := (Array.getElem?_eq_some_iff.1 hc).1
  omega
theorem n70_iff {base : Nat} {w w' : World} (hs : base ≤ w.heap.size) (h : Below w.heap.size w w') (hn : ∀ k, w.heap.size ≤ k → ∀ cur, w'.heap[k]? ≠ some (.cells cur 70 (0, 0))) (k : Nat) : N70 base w' k ↔ N70 base w k := by
  by_cases hk : k < w.heap.size
  · unfold N70; rw [h.block k hk]
  · constructor
    · rintro ⟨_, cur, hc, _⟩; exact absurd hc (hn k (by omega) cur)
    · rintro ⟨_, cur, hc, _⟩; have := (Array.getElem?_eq_some_iff.1 hc).1; omega
theorem rb70_r {base A S j : Nat} {w : World} (hj : j ≠ A) : rb70 base A S j w w := ⟨Below.refl _ _, fun _ => Below.refl _ _, fun _ _ => Iff.rfl, fun h => absurd h hj⟩
theorem rb70_c {base A S j : Nat} {w w' : World} (hj : j ≠ A) (hs : base ≤ w.heap.size) (h : Below w.heap.size w w') (hn : ∀ k, w.heap.size ≤ k → ∀ cur, w'.heap[k]? ≠ some (.cells cur 70 (0, 0))) : rb70 base A S j w w' :=
  ⟨h.mono hs, fun _ => h, fun _ => n70_iff hs h hn, fun e => absurd e hj⟩
theorem rb70_a {base A S : Nat} {w : World} (hs : base ≤ w.heap.size) (c : Array Value) (hc : c.size = 36) : rb70 base A S A w (w.alloc (.cells c 70)) := by
  have hb := (Below.refl w.heap.size w).alloc (Nat.le_refl _) (.cells c 70)
  refine ⟨hb.mono hs, fun _ => hb, fun h => absurd rfl h, fun _ k => ?_⟩
  rcases Nat.lt_trichotomy k w.heap.size with hk | rfl | hk
  · unfold N70; rw [hb.block k hk]; constructor
    · exact .inl
    · rintro (h | h)
      · exact h
      · omega
  · exact ⟨fun _ => .inr rfl, fun _ => ⟨hs, c, (MapKept.heap_alloc w _).1, hc⟩⟩
  · constructor
    · rintro ⟨_, cur, hc, _⟩
      have := (Array.getElem?_eq_some_iff.1 hc).1
      simp at this; omega
    · rintro (⟨_, cur, hc, _⟩ | h)
      · have := (Array.getElem?_eq_some_iff.1 hc).1; omega
      · omega
theorem bx70_a {base : Nat} {w : World} (hs : base ≤ w.heap.size) (c : Array Value) (hc : c.size = 36) (h0 : ∀ k, ¬ N70 base w k) : bx70 base (.pointer (some ⟨w.heap.size, 0, none⟩)) (w.alloc (.cells c 70)) :=
  ⟨_, rfl, fun k => ((rb70_a (A := 0) (S := 1) hs c hc).a rfl k).trans ⟨fun h => h.elim (fun h => absurd h (h0 k)) id, .inr⟩⟩
theorem rb70_s {base A S g : Nat} {w w' : World} {x : RV} (hAS : S ≠ A) (hx : x.1.2.1.length = 32) (hg : N70 base w g) (h1 : w'.heap[g]? = some (.cells (runB x) 70 (0, 0))) (h2 : ∀ k, k ≠ g → w'.heap[k]? = w.heap[k]?) (h3 : w.grownBy w' (some g)) : rb70 base A S S w w' := by
  refine ⟨⟨h3.os, h3.tape, h3.output, h3.size, fun k hk => h2 k (by have := hg.1; omega)⟩, fun h => absurd rfl h, fun _ k => ?_, fun h => absurd h hAS⟩
  by_cases hk : k = g
  · subst hk; exact ⟨fun _ => hg, fun _ => ⟨hg.1, _, h1, runB_size x hx⟩⟩
  · unfold N70; rw [h2 k hk]
theorem lit70_is {base g : Nat} {x : RV} {v : Value} {w : World} (hx : x.1.2.1.length = 32) (h : lit70 base x v w) (hg : ∀ k, N70 base w k ↔ k = g) : base ≤ g ∧ w.heap[g]? = some (.cells (runB x) 70 (0, 0)) := by
  obtain ⟨g', h1, h2⟩ := h
  have : g' = g := (hg g').1 ⟨h1, _, h2, runB_size x hx⟩
  subst this
  exact ⟨h1, h2⟩

set_option maxRecDepth 100000 in
theorem size60 : ∀ wx, (sizeOf (Try.prog.elem 60)).run Try.prog wx = .ok 1 wx := fun wx => by simp [sizeOf, typeInfo, show Try.prog.info? (Try.prog.elem 60) = Try.prog.info? 21 from rfl, Sem.run_bind]; rfl
set_option maxRecDepth 100000 in
theorem slice60_from {p : Addr} {l c : Nat} (n : Nat) (hn : n < l) (hc : l ≤ c) (wx : World) : (Instr.slice 60 (.slice (some p) l c) (some (.int .i64 (n : Int))) none none).run Try.prog wx = .ok (.slice (some (p.add n)) (l - n) (c - n)) wx := by
  rw [run_slice_l wx 60 (some p) l c (by kernel_rfl) .i64 n (by omega) (by omega), size60]
  simp [sliced, show c ≠ n by omega]
set_option maxRecDepth 100000 in
theorem slice60_to {p : Addr} {l c : Nat} (n : Nat) (h0 : 0 < n) (hn : n < l) (hc : l ≤ c) (wx : World) : (Instr.slice 60 (.slice (some p) l c) none (some (.int .i64 (n : Int))) (some (.int .i64 (n : Int)))).run Try.prog wx = .ok (.slice (some p) n n) wx := by
  rw [run_slice_hm wx 60 (some p) l c (by kernel_rfl) .i64 .i64 n n (by omega) (by omega) (by omega), size60]
  obtain ⟨b, o, s⟩ := p
  cases s <;> simp [sliced, Addr.add, show n ≠ 0 by omega]
theorem RuneIn.to {w : World} {a : Option Addr} {rs : List Int} (n : Nat) (h : RuneIn w a rs) : RuneIn w a (rs.take n) := by
  obtain ⟨b, off, cur, ha, hb, hc⟩ := h
  refine ⟨b, off, cur, ha, hb, fun i hi => ?_⟩
  rw [List.length_take] at hi
  rw [hc i (by omega), List.getD_eq_getElem?_getD, List.getD_eq_getElem?_getD, List.getElem?_take, if_pos (by omega)]
theorem RuneIn.from {w : World} {p : Addr} {rs : List Int} (n : Nat) (h : RuneIn w (some p) rs) : RuneIn w (some (p.add n)) (rs.drop n) := by
  obtain ⟨b, off, cur, ha, hb, hc⟩ := h
  cases ha
  refine ⟨b, off + n, cur, by simp [Addr.add], hb, fun i hi => ?_⟩
  rw [List.length_drop] at hi
  rw [Nat.add_assoc, hc (n + i) (by omega), List.getD_eq_getElem?_getD, List.getD_eq_getElem?_getD, List.getElem?_drop]
end Go.Proofs.Ytcgioboiebanpaa
