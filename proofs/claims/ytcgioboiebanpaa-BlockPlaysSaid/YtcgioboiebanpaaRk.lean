/- The reference's Delete: the walk. -/
import Derived.Test.YtcgioboiebanpaaRi
import Derived.Test.YtcgioboiebanpaaRec
namespace Go.Proofs.Ytcgioboiebanpaa
open Go.RowKit
set_option linter.unusedVariables false

theorem built26 (parts : List (Nat × Value)) : Try.prog.built 26 parts = Instr.fill (fun i => ([(0, 1), (1, 32), (33, 1)] : List (Nat × Nat)).toArray[i]?) key0 parts := by kernel_rfl
def keyV (a b c : Value) : Array Value := #[a] ++ aggOf b ++ #[c]
@[go_sem] theorem keyV_mk (t : Int) (c : List UInt8) (i : Int) : keyV (.int .i64 t) (.agg (idB c)) (.int .i64 i) = keyB t c i := rfl
@[go_sem ↓] theorem bld26_3 (f : Operand → Value) (a b c : Operand) (dst : Option Tmp) (ty' : TypeId) (pos : String) (after : Array Edge) (guard : Option (Nat × Bool)) (w : World) (ha : isI64 (f a)) (hb : idOk (f b)) (hc : isI64 (f c)) :
    (execOp f ⟨dst, .build 26 #[(0, a), (1, b), (2, c)], ty', pos, after, guard⟩).run Try.prog w = .ok (.value (.agg (keyV (f a) (f b) (f c)))) w := by
  obtain ⟨k, hx, hl⟩ := hb
  have ha' : (f a).cells = #[f a] := by obtain ⟨s, h⟩ := ha; rw [h]; rfl
  have hc' : (f c).cells = #[f c] := by obtain ⟨s, h⟩ := hc; rw [h]; rfl
  have hs : (Lib.byteCells k).length = 32 := by rw [Lib.byteCells_length, hl]
  have hbt : Try.prog.built 26 ((#[(0, a), (1, b), (2, c)] : Array (Nat × Operand)).map fun (i, x) => (i, f x)).toList = some (#[f a] ++ aggOf (f b) ++ #[f c]) := by
    obtain ⟨D, x, y, h0, hD⟩ : ∃ D x y, key0 = ([x] ++ D ++ [y]).toArray ∧ D.length = 32 := by
      refine ⟨Lib.byteCells (List.replicate 32 0), .int .i64 0, .int .i64 0, ?_, Lib.byteCells_length _⟩
      unfold key0
      rw [keyB_list]
    rw [built26, h0]
    have e0 : ((#[(0, a), (1, b), (2, c)] : Array (Nat × Operand)).map fun (i, x) => (i, f x)).toList = [(0, f a), (1, f b), (2, f c)] := by simp
    rw [e0]
    rw [fill_one (off := 0) (sz := 1) (c := [f a]) rfl (by rw [ha']) rfl (by simp)]
    have e1 : ([x] ++ D ++ [y]).take 0 ++ [f a] ++ ([x] ++ D ++ [y]).drop (0 + 1) = [f a] ++ D ++ [y] := by simp
    rw [e1, fill_one (off := 1) (sz := 32) (c := Lib.byteCells k) rfl (by rw [hx]; rfl) hs (by simp; omega)]
    have e2 : ([f a] ++ D ++ [y]).take 1 ++ Lib.byteCells k ++ ([f a] ++ D ++ [y]).drop (1 + 32) = [f a] ++ Lib.byteCells k ++ [y] := by
      rw [List.take_append_of_le_length (by simp), show ([f a] ++ D ++ [y]).drop (1 + 32) = [y] by
        rw [List.drop_append, List.drop_of_length_le (by simp; omega)]; simp [hD]]
      simp
    rw [e2, fill_one (off := 33) (sz := 1) (c := [f c]) rfl (by rw [hc']) rfl (by simp; omega)]
    have e3 : ([f a] ++ Lib.byteCells k ++ [y]).take 33 ++ [f c] ++ ([f a] ++ Lib.byteCells k ++ [y]).drop (33 + 1) = [f a] ++ Lib.byteCells k ++ [f c] := by
      rw [List.take_append, List.take_of_length_le (by simp; omega), List.drop_append, List.drop_of_length_le (by simp; omega)]; simp [hs]
    rw [e3, hx, aggOf_agg]
    unfold Instr.fill idB
    congr 1
    simp
  unfold execOp
  simp only [Sem.run_bind, run_build w 26 _ _ hbt, Result.andThen_ok]
  rfl
/-- A reference's document: a slice of elements, in a block of elements. -/
def RD (w : World) (v : Value) (l : List Nd) : Prop := nodeR.Sl w v l ∧ ∀ g, v.ownBlock = some g → ∃ cur, w.heap[g]? = some (.cells cur 114 (0, 0))
theorem RD.below {w w' : World} {v : Value} {l : List Nd} (h : RD w v l) (hb : Below w.heap.size w w') : RD w' v l := ⟨h.1.below hb, fun g hg => by
  obtain ⟨cur, hc⟩ := h.2 g hg
  exact ⟨cur, (hb.block g (Array.getElem?_eq_some_iff.1 hc).1).trans hc⟩⟩
theorem RD.row {base : Nat} {w : World} {v : Value} {l : List Nd} (h : nodeR.row 114 base l v w) : RD w v l := ⟨h.sl, fun g hg => (row_block h g hg).2⟩
theorem nd_dead (x : Nd) (h : x.1.2.1.length = 32) : nodeR.enc (deadX x) = (nodeR.enc x).set 36 (.bool true) := by
  show (ndB _).toList = (ndB x).toList.set 36 _
  rw [ndB_list, ndB_list]
  have hs : (keyB x.1.1 x.1.2.1 x.1.2.2).toList.length = 34 := by rw [Array.length_toList, keyB_size, h]
  rw [List.set_append_right _ _ (by omega), hs]
  rfl
theorem nd_free {base g len cap k : Nat} {O : List Nd} {w : World} (h : nodeR.row 114 base O (.slice (some ⟨g, 0, none⟩) len cap) w) (hk : k < O.length) : w.cell? ⟨g, k * 37 + 36, none⟩ = some (.bool (O.getD k nd0).2.2.2) := by
  have hx : O[k]? = some (O.getD k nd0) := by simp [List.getD_eq_getElem?_getD, hk]
  have h32 := h.1 _ (List.mem_of_getElem? hx)
  have := h.at hx
  exact (NdAt.of h32 this).d
theorem own_free {base g len cap : Nat} {O : List Nd} {w : World} (h : nodeR.row 114 base O (.slice (some ⟨g, 0, none⟩) len cap) w) (j : Nat) : w.frozen? ⟨g, j, none⟩ = false := by
  obtain ⟨_, cur, hh⟩ := row_block h g rfl
  exact Lib.frozen_of_heap hh j
set_option maxHeartbeats 8000000 in
set_option maxRecDepth 100000 in
theorem rdelete_any (p : Option Addr) (c : Nat) (l : List Nd) (k : KV) (n : Int) (w : World) (hk : k.2.1.length = 32) (hlen : l.length ≤ 1000) (hv : RD w (.slice p l.length c) l) (hR : RightL l) :
    Calls Try.prog 34 #[.slice p l.length c, .agg (keyB k.1 k.2.1 k.2.2), .int .i64 n] w fun e w' => ∃ v, e = .returned (.tuple #[v, .int .i64 (rdelE l k n)]) ∧ RD w' v (rdelL l k n) ∧ Below w.heap.size w w' := by
  obtain ⟨kt, kc, ki⟩ := k
  simp only at hk ⊢
  have HV := Lib.hid hv
  obtain ⟨p_, c_, he_, _, _, hin, hnn⟩ := hv.1
  injection he_ with e1 _ e2
  subst e1 e2
  obtain ⟨W, hW⟩ : ∃ W, W = w.alloc (.cells (keyB kt kc ki) 26) := ⟨_, rfl⟩
  obtain ⟨bk, hbk⟩ : ∃ b, b = w.heap.size := ⟨_, rfl⟩
  have q1 := (Below.refl w.heap.size w).alloc (Nat.le_refl _) (.cells (keyB kt kc ki) 26)
  rw [← hW] at q1
  have hkb : KeyAt W bk kt kc ki := by rw [hW, hbk]; exact (MapKept.heap_alloc w _).1
  have HQ := Lib.hid q1
  have HKB := Lib.hid hkb
  have HX := Lib.hid (hin.below q1)
  have HNN := Lib.hid hnn
  have HK := Lib.hid hk
  have HR := Lib.hid hR
  have HBK := Lib.hid (show bk < W.heap.size by rw [hW, hbk]; simp)
  have HDE := Lib.hid (show rdelE l (kt, kc, ki) n = if n < 1 then 1 else if (l.length : Int) < n ∨ ki < 0 ∨ 2147483647 < ki then 12 else if (List.range n.toNat).all (fun j => decide (0 ≤ plN l (kt, kc, ki + (j : Int)))) = true then 0 else 12 from rfl)
  have HDL := Lib.hid (show rdelL l (kt, kc, ki) n = if rdelE l (kt, kc, ki) n = 0 then killN (kt, kc, ki) n l else l from rfl)
  clear q1 hkb hk hin hnn hR
  go_enter Try.func34, Try.ntmps34
  go_upto_region 1 with fail
  rw [← hW, ← hbk]
  clear hW hbk
  by_cases h1 : n < 1
  · have HE := Lib.hid (show rdelE l (kt, kc, ki) n = 1 by rw [HDE.out, if_pos h1])
    go_wp2
    go_ret2
    exact ⟨_, by rw [HE.out]; rfl, by rw [HDL.out, HE.out, if_neg (by decide)]; exact HV.out.below HQ.out, HQ.out⟩
  have H1 := Lib.hid (show ¬ n < 1 from h1)
  have hb2 := (Below.refl W.heap.size W).alloc (Nat.le_refl _) (.cells #[] 114)
  have HR0 := Lib.hid (row_new0 W)
  have HI0 := Lib.hid (HX.out.below hb2)
  have HBE := Lib.hid hb2
  have HLN := Lib.hid (show ([] : List Nd).length + l.length ≤ 100000000 by simp; omega)
  clear hb2
  go_wp2_with (at_builtin; refine Rec.wpList_app node45 rfl _ _ rfl W.heap.size _ [] l l rfl rfl HR0.out p c rfl HI0.out HNN.out HLN.out HBE.out.size ?_)
  intro v w2 hr2 hg2 hb2
  obtain ⟨pq, cq, rfl, _, _, _, _⟩ := hr2.sl
  have HR2 := Lib.hid hr2
  have HB2 := Lib.hid (HBE.out.trans hb2)
  clear hr2 hg2 hb2
  have k2 := HKB.out.below HB2.out
  have kc0 := k2.c0
  have kf := k2.fits HK.out
  have ka := k2.agg HK.out
  have kc33 := k2.c33 HK.out
  clear k2
  by_cases h2 : (l.length : Int) < n ∨ ki < 0 ∨ 2147483647 < ki
  · have HE := Lib.hid (show rdelE l (kt, kc, ki) n = 12 by rw [HDE.out, if_neg (by have := H1.out; omega), if_pos h2])
    have HBF := Lib.hid (HQ.out.trans (HB2.out.mono HQ.out.size))
    by_cases c1 : (l.length : Int) < n
    · go_wp2
      go_ret2
      exact ⟨_, by rw [HE.out]; rfl, by rw [HDL.out, HE.out, if_neg (by decide)]; exact HV.out.below HBF.out, HBF.out⟩
    · by_cases c2 : ki < 0
      · go_wp2
        go_ret2
        exact ⟨_, by rw [HE.out]; rfl, by rw [HDL.out, HE.out, if_neg (by decide)]; exact HV.out.below HBF.out, HBF.out⟩
      · have c3 : 2147483647 < ki := by omega
        go_wp2
        go_ret2
        exact ⟨_, by rw [HE.out]; rfl, by rw [HDL.out, HE.out, if_neg (by decide)]; exact HV.out.below HBF.out, HBF.out⟩
  obtain ⟨m, rfl⟩ : ∃ m : Nat, n = m := ⟨n.toNat, by omega⟩
  have c1 : ¬ (l.length : Int) < m := by omega
  have c2 : ¬ ki < 0 := by omega
  have c3 : ¬ 2147483647 < ki := by omega
  have hm : m ≤ 1000 := by omega
  have HDE := Lib.hid (show rdelE l (kt, kc, ki) m = if (List.range m).all (fun j => decide (0 ≤ plN l (kt, kc, ki + (j : Int)))) = true then 0 else 12 by rw [HDE.out, if_neg (by have := H1.out; omega), if_neg h2, Int.toNat_natCast])
  clear h2
  go_wp2_with fail
  clear kc0 kf ka kc33
  go_loopg [9] m (fun g v9 wr => ∃ j : Nat, g + j = m ∧ v9 = .int .i64 j ∧ (∀ i, i < j → 0 ≤ plN l (kt, kc, ki + (i : Int))) ∧ nodeR.row 114 W.heap.size (killN (kt, kc, ki) (j : Int) l) (.slice pq l.length cq) wr ∧ Below W.heap.size W wr)
  case atStart => exact ⟨0, by omega, rfl, fun i hi => by omega, by rw [killN_zero]; exact HR2.out, HB2.out⟩
  case round =>
    obtain ⟨j, hg, rfl, hall, hrow, hbw⟩ := hrel
    have HG := Lib.hid hg
    have HALL := Lib.hid hall
    have HROW := Lib.hid hrow
    have HB := Lib.hid hbw
    clear hg hall hrow hbw
    by_cases hj : j < m
    · have HJ := Lib.hid hj
      have k2 := HKB.out.below HB.out
      have kc0 := k2.c0
      have kf := k2.fits HK.out
      have ka := k2.agg HK.out
      have kc33 := k2.c33 HK.out
      have hkk := idOk_agg kc HK.out
      have i1 : (j : Int) < m := by omega
      have hwr : IntKind.i64.wrap (ki + (j : Int)) = ki + j := IntWalk.i64_in _ (by omega)
      have HPL := Lib.hid (fun (w : World) (hin : nodeR.In w p l) => place_any p c l (kt, kc, ki + (j : Int)) w HK.out (by omega) hin)
      clear k2
      go_wp2_with fail
      refine (HPL.out wr (HX.out.below HB.out)).mono ?_
      rintro e w3 ⟨rfl, hb3⟩
      have HB3 := Lib.hid (HB.out.trans (hb3.mono HB.out.size))
      have HROW3 := Lib.hid (HROW.out.below hb3)
      obtain ⟨x, hx⟩ : ∃ x, x = plN l (kt, kc, ki + (j : Int)) := ⟨_, rfl⟩
      rw [← hx]
      have HXX := Lib.hid hx
      clear hb3 kc0 kf ka kc33 hx
      by_cases hx0 : x < 0
      · have HE := Lib.hid (show rdelE l (kt, kc, ki) m = 12 by
          rw [HDE.out, if_neg]
          intro hh
          rw [List.all_eq_true] at hh
          have := of_decide_eq_true (hh j (List.mem_range.2 HJ.out))
          rw [← HXX.out] at this
          omega)
        have HBF := Lib.hid (HQ.out.trans (HB3.out.mono HQ.out.size))
        go_wp2
        go_ret2
        exact ⟨_, by rw [HE.out]; rfl, by rw [HDL.out, HE.out, if_neg (by decide)]; exact HV.out.below HBF.out, HBF.out⟩
      · obtain ⟨q, rfl⟩ := Int.eq_ofNat_of_zero_le (show 0 ≤ x by omega)
        obtain ⟨hql, hqk⟩ : q < l.length ∧ (l.getD q nd0).1 = (kt, kc, ki + (j : Int)) := by
          rcases plN_cases l (kt, kc, ki + (j : Int)) with ⟨h, _⟩ | ⟨i, h3, h4, h5⟩
          · have := HXX.out; omega
          · have : i = q := by have := HXX.out; omega
            subst this
            exact ⟨h3, h5⟩
        have HKS := Lib.hid (killN_succ (k := (kt, kc, ki)) (j := j) HR.out hql hqk)
        have hqK : q < (killN (kt, kc, ki) (j : Int) l).length := by rw [killN_len]; exact hql
        have hqx : (killN (kt, kc, ki) (j : Int) l)[q]? = some ((killN (kt, kc, ki) (j : Int) l).getD q nd0) := by simp [List.getD_eq_getElem?_getD, hqK]
        have h32 := HROW3.out.1 _ (List.mem_of_getElem? hqx)
        obtain ⟨g, cap_, hve, _⟩ := HROW3.out.some (by intro h; rw [h] at hqK; simp at hqK)
        injection hve with e1 e2 e3
        subst e1
        clear e2 e3
        have z1 := nd_free HROW3.out hqK
        have z0 := own_free HROW3.out (q * 37 + 36)
        obtain ⟨hs1, hs2⟩ := row_field (R := nodeR) (f := 36) (x' := deadX ((killN (kt, kc, ki) (j : Int) l).getD q nd0)) (u := .bool true) hqx h32 (by decide) (nd_dead _ h32) HROW3.out
        have HS1 := Lib.hid hs1
        have HS2 := Lib.hid (HB3.out.trans hs2)
        have i2 : (q : Int) < l.length := by omega
        clear hs1 hs2 hqx h32 hql hqk hqK
        go_wp2
        go_roundg (gk - 1)
        case measure => have := HG.out; have := HJ.out; omega
        case rel => exact ⟨j + 1, nat_step HG.out HJ.out, by go_num, fun i hi => by
          rcases Nat.lt_succ_iff_lt_or_eq.1 hi with h | rfl
          · exact HALL.out i h
          · rw [← HXX.out]; omega, by rw [HKS.out]; exact HS1.out, HS2.out⟩
    · have HJM := Lib.hid (show j = m by have := HG.out; omega)
      have HE := Lib.hid (show rdelE l (kt, kc, ki) m = 0 by
        rw [HDE.out, if_pos]
        rw [List.all_eq_true]
        intro i hi
        exact decide_eq_true (HALL.out i (by rw [HJM.out]; exact List.mem_range.1 hi)))
      have HBF := Lib.hid (HQ.out.trans (HB.out.mono HQ.out.size))
      go_wp2
      go_ret2
      exact ⟨_, by rw [HE.out]; rfl, by
        have h9 := RD.row HROW.out
        rw [HJM.out] at h9
        rw [HDL.out, HE.out, if_pos rfl]; exact h9, HBF.out⟩
end Go.Proofs.Ytcgioboiebanpaa

namespace Go.Proofs.Ytcgioboiebanpaa
open Go.RowKit
set_option linter.unusedVariables false

/-- What an operation of such a region does to the world; A: the append. -/
def appR (A base : Nat) (vo : Value) (i : Nat) (w w' : World) : Prop := if i = A then w.grownBy w' vo.ownBlock ∧ Below base w w' else Below w.heap.size w w'
/-- One record in a new slice, away from a row's block. -/
def oneR {α : Type} (R : Rec α) (vo : Value) (x : α) : Value → World → Prop := fun v w => ∃ g, v = .slice (some ⟨g, 0, none⟩) 1 1 ∧ R.In w (some ⟨g, 0, none⟩) [x] ∧ some g ≠ vo.ownBlock
theorem appR_b {A base : Nat} {vo : Value} {i : Nat} {w w' : World} (h : i ≠ A) (hb : Below w.heap.size w w') : appR A base vo i w w' := by unfold appR; rw [if_neg h]; exact hb
theorem appR_a {A base : Nat} {vo : Value} {w w' : World} (h : w.grownBy w' vo.ownBlock) (hb : Below base w w') : appR A base vo A w w' := by unfold appR; rw [if_pos rfl]; exact ⟨h, hb⟩
theorem appR_below {A base : Nat} {vo : Value} {i : Nat} {W w w' : World} (hB : W.heap.size ≤ base) (hg : Below W.heap.size W w) (hr : appR A base vo i w w') : Below W.heap.size W w' := by
  unfold appR at hr
  split at hr
  · exact hg.trans (hr.2.mono hB)
  · exact hg.trans (hr.mono hg.size)
theorem oneR_st {α : Type} {R : Rec α} {A base : Nat} {vo : Value} {i : Nat} {x : α} {v : Value} {w w' : World} (h : oneR R vo x v w) (hr : appR A base vo i w w') : oneR R vo x v w' := by
  obtain ⟨g, rfl, hi, hn⟩ := h
  refine ⟨g, rfl, ?_, hn⟩
  unfold appR at hr
  split at hr
  · refine ⟨hi.1, ?_⟩
    rcases hi.2 with h0 | ⟨b, off, he, hlt, hc⟩
    · exact .inl h0
    · cases he
      have e := hr.1.block g hlt hn
      refine .inr ⟨g, 0, rfl, Nat.lt_of_lt_of_le hlt hr.2.size, fun k y hk => ?_⟩
      obtain ⟨h1, h2⟩ := hc k y hk
      exact ⟨fits_of_block (a := ⟨g, 0 + k * R.sz, none⟩) e h1, (aggAt_of_block (a := ⟨g, 0 + k * R.sz, none⟩) e).trans h2⟩
  · exact hi.below hr
theorem ownR_ne {α : Type} {R : Rec α} {e : TypeId} {w : World} {base : Nat} {O : List α} {vo : Value} (h : R.row e base O vo w) : some w.heap.size ≠ vo.ownBlock := by
  obtain ⟨_, _, ⟨rfl, _⟩ | ⟨g, cap, cur, rfl, hg, hh, _⟩⟩ := h
  · intro e; cases e
  · intro e
    simp only [Value.ownBlock, Option.some.injEq] at e
    have := (Array.getElem?_eq_some_iff.1 hh).1
    omega
/-- A value of one cell. -/
def cellV (v : Value) : Prop := v.cells = #[v]
@[go_sem] theorem cellV_int (k : IntKind) (n : Int) : cellV (.int k n) := rfl
@[go_sem] theorem cellV_bool (b : Bool) : cellV (.bool b) := rfl
@[go_sem] theorem cellV_str (s : ByteArray) : cellV (.string s) := rfl
@[go_sem] theorem cellV_slice (a : Option Addr) (n c : Nat) : cellV (.slice a n c) := rfl
end Go.Proofs.Ytcgioboiebanpaa

namespace Go.Proofs.Ytcgioboiebanpaa
open Go.RowKit
set_option linter.unusedVariables false

theorem KeyAt.fits0 {w : World} {b : Nat} {t : Int} {c : List UInt8} {i : Int} (h : KeyAt w b t c i) (hc : c.length = 32) : Go.Proofs.Ytcgioboiebanpaa.fits w ⟨b, 0, none⟩ 34 := (blk_ld h (by rw [keyB_size, hc])).1
theorem KeyAt.agg0 {w : World} {b : Nat} {t : Int} {c : List UInt8} {i : Int} (h : KeyAt w b t c i) (hc : c.length = 32) : aggAt w ⟨b, 0, none⟩ 34 = keyB t c i := (blk_ld h (by rw [keyB_size, hc])).2
theorem key_app {A base b i : Nat} {vo : Value} {t : Int} {c : List UInt8} {x : Int} {w w' : World} (hn : some b ≠ vo.ownBlock) (h : KeyAt w b t c x) (hr : appR A base vo i w w') : KeyAt w' b t c x := by
  unfold appR at hr
  split at hr
  · exact (hr.1.block b (Array.getElem?_eq_some_iff.1 h).1 hn).trans h
  · exact h.below hr
def parI (p : Int) (n i : Nat) : Int := if i = 0 then p else ((n + i - 1 : Nat) : Int)
theorem parI_succ (p : Int) (n i : Nat) : parI p n (i + 1) = ((n + i : Nat) : Int) := by unfold parI; rw [if_neg (by omega)]; congr 1
theorem chain_step {t : Int} {c : List UInt8} {p k : Int} {n : Nat} {us : List Int} {i : Nat} (h : i < us.length) : chainN t c p n k (us.take (i + 1)) = chainN t c p n k (us.take i) ++ [((t, c, k + (i : Int)), parI p n i, us.getD i 0, false)] := by
  have e : us.take (i + 1) = us.take i ++ [us.getD i 0] := by
    rw [List.take_succ_eq_append_getElem h]; simp [List.getD_eq_getElem?_getD, h]
  rw [e, chainN_snoc]
  have hl : (us.take i).length = i := by rw [List.length_take]; omega
  rw [hl]
  congr 4
  unfold parI
  by_cases hi : i = 0
  · subst hi; simp
  · rw [if_neg hi, if_neg (fun h0 => by rw [h0] at hl; simp at hl; omega)]
set_option maxHeartbeats 8000000 in
set_option maxRecDepth 100000 in
theorem rinsert_any (p : Option Addr) (c : Nat) (l : List Nd) (k a : KV) (first : Bool) (s : ByteArray) (w : World) (hk : k.2.1.length = 32) (ha : a.2.1.length = 32) (hs : s.size ≤ 1000) (hlen : l.length ≤ 1000) (hv : RD w (.slice p l.length c) l) :
    Calls Try.prog 33 #[.slice p l.length c, .agg (keyB k.1 k.2.1 k.2.2), .agg (keyB a.1 a.2.1 a.2.2), .bool first, .string s] w fun e w' =>
      ∃ v, e = .returned (.tuple #[v, .int .i64 (rinsE l k a first s.data.toList)]) ∧ RD w' v (rinsL l k a first s.data.toList) ∧ Below w.heap.size w w' := by
  obtain ⟨kt, kc, ki⟩ := k
  obtain ⟨at_, ac, ai⟩ := a
  simp only at hk ha ⊢
  have HV := Lib.hid hv
  obtain ⟨p_, c_, he_, _, _, hin, hnn⟩ := hv.1
  injection he_ with e1 _ e2
  subst e1 e2
  obtain ⟨W, hW⟩ : ∃ W, W = (w.alloc (.cells (keyB kt kc ki) 26)).alloc (.cells (keyB at_ ac ai) 26) := ⟨_, rfl⟩
  obtain ⟨hbW, hk1, hk2⟩ := two_new hW.symm
  obtain ⟨b1, hb1⟩ : ∃ b, b = w.heap.size := ⟨_, rfl⟩
  obtain ⟨b2, hb2⟩ : ∃ b, b = w.heap.size + 1 := ⟨_, rfl⟩
  rw [← hb1] at hk1
  rw [← hb2] at hk2
  have HBW := Lib.hid hbW
  have HK := Lib.hid hk
  have HA := Lib.hid ha
  have HS := Lib.hid hs
  have HX := Lib.hid (hin.below hbW)
  have HNN := Lib.hid hnn
  have HK1 := Lib.hid (show KeyAt W b1 kt kc ki from hk1)
  have HK2 := Lib.hid (show KeyAt W b2 at_ ac ai from hk2)
  have HB12 := Lib.hid (show b1 < W.heap.size ∧ b2 < W.heap.size from ⟨(Array.getElem?_eq_some_iff.1 hk1).1, (Array.getElem?_eq_some_iff.1 hk2).1⟩)
  have HR := Lib.hid (rrunes_any s (by unfold maxLen; omega) (by omega) W)
  have HLN := Lib.hid (runesL_len s.data.toList)
  have HSL := Lib.hid (show s.data.toList.length = s.size from Array.length_toList)
  obtain ⟨E, hE⟩ : ∃ E, E = rinsE l (kt, kc, ki) (at_, ac, ai) first s.data.toList := ⟨_, rfl⟩
  have HE := Lib.hid hE
  have HLL := Lib.hid (show rinsL l (kt, kc, ki) (at_, ac, ai) first s.data.toList = if E = 0 then l ++ chainN kt kc (if first then -1 else plN l (at_, ac, ai)) l.length ki (runesL s.data.toList) else l by rw [hE]; rfl)
  rw [← hE]
  generalize rinsL l (kt, kc, ki) (at_, ac, ai) first s.data.toList = LL at *
  clear hbW hk1 hk2 hk ha hs hE hin hnn
  have HFAIL := Lib.hid (show ∀ w9, Below W.heap.size W w9 → E ≠ 0 → RD w9 (.slice p l.length c) LL ∧ Below w.heap.size w w9 from fun w9 h9 h0 =>
    ⟨by rw [HLL.out, if_neg h0]; exact HV.out.below (HBW.out.trans (h9.mono HBW.out.size)), HBW.out.trans (h9.mono HBW.out.size)⟩)
  go_enter Try.func33, Try.ntmps33
  go_upto_region 1 with fail
  rw [← hW, ← hb2, ← hb1]
  clear hW hb1 hb2
  go_wp2_with fail
  refine HR.out.mono ?_
  rintro e w1 ⟨v11, rfl, hr, hb⟩
  obtain ⟨ra, rcap, rfl, hri, hrc, hrm⟩ := runes_slice hr
  have HRI := Lib.hid hri
  have HB1 := Lib.hid hb
  clear hr hri hrc hrm hb
  have HC1 := Lib.hid (show w1.cell? ⟨b1, 33, none⟩ = some (.int .i64 ki) from (HB1.out.cell (p := ⟨b1, 33, none⟩) HB12.out.1).trans (KeyAt.c33 HK1.out HK.out))
  have HCE := Lib.hid (show chkE s.data.toList = if isText s.data.toList then 0 else 5 from rfl)
  have HBAD := Lib.hid (show insBad s.data.toList (kt, kc, ki) = (!isText s.data.toList || decide ((runesL s.data.toList).length = 0) || decide (ki < 0) || decide (2147483647 - ((runesL s.data.toList).length : Int) + 1 < ki)) from rfl)
  have HB1E := Lib.hid (show insBad s.data.toList (kt, kc, ki) = true → E = 1 from fun h => by rw [HE.out]; unfold rinsE; rw [if_pos h])
  have HGE := Lib.hid (show insBad s.data.toList (kt, kc, ki) = false → E = if first = false ∧ plN l (at_, ac, ai) < 0 then 12 else if first = false ∧ 0 ≤ cmpK (at_, ac, ai) (kt, kc, ki) then 21 else if hitN l (kt, kc, ki) (runesL s.data.toList).length = true then 11 else 0 from fun h => by rw [HE.out]; unfold rinsE; rw [if_neg (by rw [h]; simp)])
  obtain ⟨us, hus⟩ : ∃ us, us = runesL s.data.toList := ⟨_, rfl⟩
  rw [← hus] at HBAD HLN HGE HLL HRI
  rw [← hus]
  obtain ⟨n, hn⟩ : ∃ n, n = us.length := ⟨_, rfl⟩
  obtain ⟨CE, hCE⟩ : ∃ CE, CE = chkE s.data.toList := ⟨_, rfl⟩
  rw [← hn] at HBAD HLN HGE
  rw [← hCE] at HCE
  rw [← hn, ← hCE]
  have HN := Lib.hid hn
  generalize chkAt s.data.toList = CA
  clear hn hCE hus
  have nb : n ≤ 1000 := by have := HLN.out; have := HS.out; have := HSL.out; omega
  have c1 := HC1.out
  cases ht : isText s.data.toList with
  | false =>
    have HT := Lib.hid (show CE = 5 by rw [HCE.out, ht]; rfl)
    have HBB := Lib.hid (HB1E.out (by rw [HBAD.out, ht]; rfl))
    have e1 : (CE != 0) = true := by rw [HT.out]; decide
    clear ht
    go_wp2
    go_ret2
    exact ⟨_, by rw [HBB.out]; rfl, HFAIL.out _ HB1.out (by rw [HBB.out]; decide)⟩
  | true =>
    have e1 : CE = 0 := by rw [HCE.out, ht]; rfl
    subst e1
    by_cases h0 : n = 0
    · have HBB := Lib.hid (HB1E.out (by rw [HBAD.out, ht, h0]; rfl))
      subst h0
      clear ht
      go_wp2
      go_ret2
      exact ⟨_, by rw [HBB.out]; rfl, HFAIL.out _ HB1.out (by rw [HBB.out]; decide)⟩
    · by_cases hkn : ki < 0
      · have HBB := Lib.hid (HB1E.out (by rw [HBAD.out, ht, decide_eq_false h0, decide_eq_true hkn]; rfl))
        have g0 : ((n : Int) == 0) = false := beq_eq_false_iff_ne.2 (by omega)
        clear ht
        go_wp2
        go_ret2
        exact ⟨_, by rw [HBB.out]; rfl, HFAIL.out _ HB1.out (by rw [HBB.out]; decide)⟩
      · by_cases hkx : 2147483647 < ki
        · have HBB := Lib.hid (HB1E.out (by rw [HBAD.out, ht, decide_eq_true (show 2147483647 - (n : Int) + 1 < ki by omega)]; simp))
          have g0 : ((n : Int) == 0) = false := beq_eq_false_iff_ne.2 (by omega)
          clear ht
          go_wp2
          go_ret2
          exact ⟨_, by rw [HBB.out]; rfl, HFAIL.out _ HB1.out (by rw [HBB.out]; decide)⟩
        · have n1 : IntKind.i64.wrap ((n : Int) - 1) = (n : Int) - 1 := IntWalk.i64_in _ (by omega)
          have n2 : IntKind.i64.wrap (2147483647 - ki) = 2147483647 - ki := IntWalk.i64_in _ (by omega)
          have g0 : ((n : Int) == 0) = false := beq_eq_false_iff_ne.2 (by omega)
          have hd1 : decide (ki < 0) = false := decide_eq_false hkn
          have hd2 : decide (2147483647 < ki) = false := decide_eq_false hkx
          by_cases hkb : 2147483647 - ki < (n : Int) - 1
          · have HBB := Lib.hid (HB1E.out (by rw [HBAD.out, ht, decide_eq_true (show 2147483647 - (n : Int) + 1 < ki by omega)]; simp))
            have hd3 : decide (2147483647 - ki < (n : Int) - 1) = true := decide_eq_true hkb
            clear ht
            go_wp2
            go_ret2
            exact ⟨_, by rw [HBB.out]; rfl, HFAIL.out _ HB1.out (by rw [HBB.out]; decide)⟩
          have hd3 : decide (2147483647 - ki < (n : Int) - 1) = false := decide_eq_false hkb
          have HGOOD := Lib.hid (HGE.out (by rw [HBAD.out, ht, decide_eq_false h0, decide_eq_false hkn, decide_eq_false (show ¬ 2147483647 - (n : Int) + 1 < ki by omega)]; rfl))
          have HKI := Lib.hid (show 0 ≤ ki ∧ ki + (n : Int) ≤ 2147483648 by omega)
          have HN0 := Lib.hid (show 0 < n by omega)
          clear ht
          go_upto_region 5 with fail
          clear g0 c1 n1 n2 hkn hkb hkx hd1 hd2 hd3 h0
          have HNB := Lib.hid nb
          clear nb
          go_upto_if 53 with fail
          go_cut [15] (fun v15 wx => v15 = .int .i64 (if first then -1 else plN l (at_, ac, ai)) ∧ (E = if hitN l (kt, kc, ki) n = true then 11 else 0) ∧ Below w1.heap.size w1 wx)
          case first =>
            cases first with
            | false =>
              have HGO := Lib.hid (show E = if plN l (at_, ac, ai) < 0 then 12 else if 0 ≤ keysCmp at_ ac ai kt kc ki then 21 else if hitN l (kt, kc, ki) n = true then 11 else 0 by
                rw [HGOOD.out]
                show (if false = false ∧ plN l (at_, ac, ai) < 0 then (12 : Int) else if false = false ∧ 0 ≤ keysCmp at_ ac ai kt kc ki then 21 else if hitN l (kt, kc, ki) n = true then 11 else 0) = _
                simp only [true_and])
              have q2 : KeyAt w1 b2 at_ ac ai := KeyAt.below HK2.out HB1.out
              have f1 := q2.fits0 HA.out
              have f2 := q2.agg0 HA.out
              have HPL := Lib.hid (place_any p c l (at_, ac, ai) w1 HA.out (by omega) (HX.out.below HB1.out))
              clear q2
              go_wp2_with fail
              refine HPL.out.mono ?_
              rintro e w2 ⟨rfl, hb2⟩
              have HB2 := Lib.hid hb2
              obtain ⟨x, hx⟩ : ∃ x, x = plN l (at_, ac, ai) := ⟨_, rfl⟩
              rw [← hx]
              have HXX := Lib.hid hx
              clear f1 f2 hb2 hx
              by_cases hx0 : x < 0
              · have HEE := Lib.hid (show E = 12 by rw [HGO.out, if_pos (by rw [← HXX.out]; exact hx0)])
                go_wp2
                go_ret2
                exact ⟨_, by rw [HEE.out]; rfl, HFAIL.out _ (HB1.out.trans (HB2.out.mono HB1.out.size)) (by rw [HEE.out]; decide)⟩
              · have q1 : KeyAt w2 b1 kt kc ki := KeyAt.below (KeyAt.below HK1.out HB1.out) HB2.out
                have q2 : KeyAt w2 b2 at_ ac ai := KeyAt.below (KeyAt.below HK2.out HB1.out) HB2.out
                have f1 := q2.fits0 HA.out
                have f2 := q2.agg0 HA.out
                have f3 := q1.fits0 HK.out
                have f4 := q1.agg0 HK.out
                clear q1 q2
                have HGO2 := Lib.hid (show E = if 0 ≤ keysCmp at_ ac ai kt kc ki then 21 else if hitN l (kt, kc, ki) n = true then 11 else 0 by
                  rw [HGO.out, if_neg (by rw [← HXX.out]; exact hx0)])
                go_wp2_with fail
                refine (rkeys_any at_ ac ai kt kc ki HA.out HK.out w2).mono ?_
                rintro e w3 ⟨rfl, hb3⟩
                have HB3 := Lib.hid (HB2.out.trans (hb3.mono HB2.out.size))
                clear hb3 f1 f2 f3 f4
                by_cases hcm : 0 ≤ keysCmp at_ ac ai kt kc ki
                · have HEF := Lib.hid (show E = 21 by rw [HGO2.out, if_pos hcm])
                  go_wp2
                  go_ret2
                  exact ⟨_, by rw [HEF.out]; rfl, HFAIL.out _ (HB1.out.trans (HB3.out.mono HB1.out.size)) (by rw [HEF.out]; decide)⟩
                · have HEF := Lib.hid (show E = if hitN l (kt, kc, ki) n = true then 11 else 0 by rw [HGO2.out, if_neg hcm])
                  go_wp2_with fail
                  go_meet
                  exact ⟨by rw [HXX.out]; rfl, HEF.out, HB3.out⟩
            | true =>
              have HEF := Lib.hid (show E = if hitN l (kt, kc, ki) n = true then 11 else 0 by rw [HGOOD.out]; show (if true = false ∧ plN l (at_, ac, ai) < 0 then (12 : Int) else if true = false ∧ 0 ≤ cmpK (at_, ac, ai) (kt, kc, ki) then 21 else if hitN l (kt, kc, ki) n = true then 11 else 0) = _; simp)
              go_wp2_with fail
              go_meet
              exact ⟨rfl, HEF.out, Below.refl _ _⟩
          case rest =>
            obtain ⟨rfl, hEE, hbx⟩ := hcut
            obtain ⟨X, hX⟩ : ∃ X, X = wc := ⟨_, rfl⟩
            rw [← hX] at hbx ⊢
            obtain ⟨P0, hP0⟩ : ∃ P0 : Int, P0 = (if first = true then -1 else plN l (at_, ac, ai)) := ⟨_, rfl⟩
            rw [← hP0] at HLL ⊢
            have HEQ := Lib.hid hEE
            have HBX := Lib.hid (HB1.out.trans (hbx.mono HB1.out.size))
            obtain ⟨rb, ro, cur, rfl, hrb, hrc⟩ := (HRI.out (by rw [← HN.out]; exact HN0.out)).keep (KeepN.of_below hbx)
            have HRUNE := Lib.hid (fun (i : Nat) (hi : i < n) => (show X.cell? ⟨rb, ro + i, none⟩ = some (.int .i32 (us.getD i 0)) by rw [Lib.cell_of_heap hrb]; exact hrc i (by rw [← HN.out]; exact hi)))
            have HRB := Lib.hid (Array.getElem?_eq_some_iff.1 hrb).1
            have hb2 := (Below.refl X.heap.size X).alloc (Nat.le_refl _) (.cells #[] 114)
            have HR0 := Lib.hid (row_new0 X)
            have HI0 := Lib.hid ((HX.out.below HBX.out).below hb2)
            have HBE := Lib.hid hb2
            have HLN0 := Lib.hid (show ([] : List Nd).length + l.length ≤ 100000000 by simp; omega)
            clear hX hEE hbx hP0 hrb hrc hb2
            go_wp2_with (at_builtin; refine Rec.wpList_app node45 rfl _ _ rfl X.heap.size _ [] l l rfl rfl HR0.out p c rfl HI0.out HNN.out HLN0.out HBE.out.size ?_)
            intro v w2 hr2 hg2 hb2
            obtain ⟨pq0, cq0, rfl, _, _, _, _⟩ := hr2.sl
            have HR2 := Lib.hid hr2
            have HB2 := Lib.hid (HBE.out.trans hb2)
            clear hr2 hg2 hb2
            have hnb := HNB.out
            go_wp2_with fail
            go_loopg [15, 16, 17] n (fun g v15 v16 v17 wr => ∃ (i ln : Nat) (pq : Option Addr) (cq : Nat), g + i = n ∧ v17 = .int .i64 i ∧ v16 = .slice pq ln cq ∧ v15 = .int .i64 (parI P0 l.length i) ∧ ln = l.length + i ∧ nodeR.row 114 X.heap.size (l ++ chainN kt kc P0 l.length ki (us.take i)) (.slice pq ln cq) wr ∧ (∀ j, j < i → plN l (kt, kc, ki + (j : Int)) < 0) ∧ Below X.heap.size X wr)
            case atStart => exact ⟨0, l.length, pq0, cq0, by omega, rfl, rfl, rfl, by omega, by simpa [chainN] using HR2.out, fun j hj => by omega, HB2.out⟩
            case round =>
              obtain ⟨i, ln, pq, cq, hg, rfl, rfl, rfl, hln, hrow, hall, hbw⟩ := hrel
              have HG := Lib.hid hg
              have HLI := Lib.hid hln
              have HROW := Lib.hid hrow
              have HALL := Lib.hid hall
              have HB := Lib.hid hbw
              obtain ⟨par, hpar⟩ : ∃ par, par = parI P0 l.length i := ⟨_, rfl⟩
              rw [← hpar]
              have HPAR := Lib.hid hpar
              clear hg hrow hall hbw hpar
              by_cases hi : i < n
              · have HI := Lib.hid hi
                have q1 : KeyAt wr b1 kt kc ki := KeyAt.below (KeyAt.below HK1.out HBX.out) HB.out
                have kc0 := q1.c0
                have kf := q1.fits HK.out
                have ka := q1.agg HK.out
                have kc33 := q1.c33 HK.out
                have hkk := idOk_agg kc HK.out
                have i1 : (i : Int) < n := by omega
                have hwr : IntKind.i64.wrap (ki + (i : Int)) = ki + i := IntWalk.i64_in _ (by have := HKI.out; omega)
                have hln2 : ln ≤ 2000 := by omega
                have HNE := Lib.hid (ownR_ne HROW.out)
                clear q1 hln
                go_upto_region 16 with (refine wpList_store_blk 26 34 (by kernel_rfl) rfl _ _ rfl wr.heap.size (keyB kt kc (ki + (i : Int))) (by rw [keyB_size, HK.out]) (key_one _ _ _) rfl rfl _ (MapKept.heap_alloc wr _).1 (by rfl) ?_)
                intro w5 s1 s2 s3
                have hb2 : Below wr.heap.size wr w5 := ((Below.refl wr.heap.size wr).alloc (Nat.le_refl _) _).trans ⟨s3.os, s3.tape, s3.output, s3.size, fun j hj => s3.block j (by simp; omega) (by simp; omega)⟩
                have HB5 := Lib.hid (HB.out.trans (hb2.mono HB.out.size))
                have HROW5 := Lib.hid (HROW.out.below hb2)
                obtain ⟨bq, hbq⟩ : ∃ bq, bq = wr.heap.size := ⟨_, rfl⟩
                rw [← hbq] at s1 HNE ⊢
                have HKQ5 := Lib.hid (show KeyAt w5 bq kt kc (ki + (i : Int)) from s1)
                have f1 := KeyAt.fits0 (show KeyAt w5 bq kt kc (ki + (i : Int)) from s1) HK.out
                have f2 := KeyAt.agg0 (show KeyAt w5 bq kt kc (ki + (i : Int)) from s1) HK.out
                have HPL := Lib.hid (place_any p c l (kt, kc, ki + (i : Int)) w5 HK.out (by omega) (HX.out.below (HBX.out.trans (HB5.out.mono HBX.out.size))))
                clear s1 s2 s3 hb2 hbq kc0 kf ka kc33
                go_wp2_with fail
                refine HPL.out.mono ?_
                rintro e w6 ⟨rfl, hb6⟩
                have HB6 := Lib.hid (HB5.out.trans (hb6.mono HB5.out.size))
                have HROW6 := Lib.hid (HROW5.out.below hb6)
                have HKQ := Lib.hid (KeyAt.below HKQ5.out hb6)
                obtain ⟨x, hx⟩ : ∃ x, x = plN l (kt, kc, ki + (i : Int)) := ⟨_, rfl⟩
                rw [← hx]
                have HXX := Lib.hid hx
                clear f1 f2 hb6 hx HPL
                by_cases hx0 : 0 ≤ x
                · have HEF := Lib.hid (show E = 11 by
                    rw [HEQ.out, if_pos]
                    unfold hitN
                    rw [List.any_eq_true]
                    exact ⟨i, List.mem_range.2 HI.out, decide_eq_true (by rw [← HXX.out]; exact hx0)⟩)
                  go_wp2
                  go_ret2
                  exact ⟨_, by rw [HEF.out]; rfl, HFAIL.out _ (HBX.out.trans (HB6.out.mono HBX.out.size)) (by rw [HEF.out]; decide)⟩
                have HNX := Lib.hid (show ∀ j, j < i + 1 → plN l (kt, kc, ki + (j : Int)) < 0 from fun j hj => by
                  rcases Nat.lt_succ_iff_lt_or_eq.1 hj with h | rfl
                  · exact HALL.out j h
                  · rw [← HXX.out]; omega)
                have HRC := Lib.hid (HRUNE.out i HI.out)
                have HCS := Lib.hid (chain_step (t := kt) (c := kc) (p := P0) (k := ki) (n := l.length) (us := us) (i := i) (by rw [← HN.out]; exact HI.out))
                have HPN := Lib.hid (show parI P0 l.length (i + 1) = (ln : Int) by rw [parI_succ, HLI.out])
                rw [← HPAR.out] at HCS
                generalize us.getD i 0 = u at *
                obtain ⟨L, hL⟩ : ∃ L, L = l ++ chainN kt kc P0 l.length ki (us.take i) := ⟨_, rfl⟩
                have HCH := Lib.hid (show l ++ chainN kt kc P0 l.length ki (us.take (i + 1)) = L ++ [((kt, kc, ki + (i : Int)), par, u, false)] by rw [HCS.out, hL, List.append_assoc])
                rw [← hL] at HROW6
                have HLN := Lib.hid (show L.length = ln by
                  rw [hL, List.length_append, chainN_len, List.length_take, HLI.out, ← HN.out]
                  have := HI.out
                  omega)
                have HLEN := Lib.hid (show L.length + [((kt, kc, ki + (i : Int)), par, u, false)].length ≤ 100000000 by rw [HLN.out]; simp; omega)
                clear hL
                go_upto_region 18 with fail
                refine wp_region_specs2 [[], [], [], [], [], [3, 4], [5], [1, 2, 6], [7], [0, 8], [9]] [some 88, some 89, some 90, some 91, some 92, some 93, some 94, some 95, some 96, some 97, some 16] [0, 1, 2, 3, 4, 5, 6, 7, 8, 9, 10]
                  (fun w_ => Below X.heap.size X w_ ∧ KeyAt w_ bq kt kc (ki + (i : Int))) (fun i w_ => i = 8 ∨ i = 9 → nodeR.row 114 X.heap.size (L) (.slice pq ln cq) w_) (appR 9 X.heap.size (.slice pq ln cq))
                  (fun ix_ => [eqv (.slice pq ln cq), eqv (.agg (keyB kt kc (ki + (i : Int)))), eqv (.int .i64 par), eqv (.slice (some ⟨rb, ro, none⟩) n rcap), eqv (.int .i64 (i : Int)), eqv (.pointer (some ⟨rb, ro + i, none⟩)), eqv (.int .i32 u), eqv (.agg (ndB ((kt, kc, ki + (i : Int)), par, u, false))), oneR nodeR (.slice pq ln cq) ((kt, kc, ki + (i : Int)), par, u, false), nodeR.row 114 X.heap.size (L ++ [((kt, kc, ki + (i : Int)), par, u, false)]), nodeR.row 114 X.heap.size (L ++ [((kt, kc, ki + (i : Int)), par, u, false)])].getD ix_ anyv) (by kernel_rfl) (by kernel_rfl) ⟨below_drewN HB6.out 1, HKQ.out.below (below_drewN (Below.refl _ _) 1)⟩ (fun i _ => HROW6.out.below (below_drewN (Below.refl _ _) 1)) (fun j w_ w_' hg hr => ⟨appR_below (Nat.le_refl _) hg.1 hr, key_app HNE.out hg.2 hr⟩) ?_ ?_ ?_ ?_
                · intro i j w_ w_' hij hd hp hr hi
                  by_cases hj : j = 9
                  · subst hj; rcases hi with rfl | rfl
                    · exact absurd (by decide) hd
                    · exact absurd rfl hij
                  · unfold appR at hr; rw [if_neg hj] at hr; exact (hp hi).below hr
                · intro i j v w_ w_' hij hd h hr
                  have hrow_ : (j ≠ 9 → ∀ base xs, nodeR.row 114 base xs v w_ → nodeR.row 114 base xs v w_') := fun hj base xs h => by unfold appR at hr; rw [if_neg hj] at hr; exact h.below hr
                  match i, hij, hd, h with
                  | 0, _, _, h => exact h
                  | 1, _, _, h => exact h
                  | 2, _, _, h => exact h
                  | 3, _, _, h => exact h
                  | 4, _, _, h => exact h
                  | 5, _, _, h => exact h
                  | 6, _, _, h => exact h
                  | 7, _, _, h => exact h
                  | 8, _, _, h => exact oneR_st h hr
                  | 9, hij, _, h => exact hrow_ (fun e => hij e.symm) _ _ h
                  | 10, _, hd, h => exact hrow_ (fun e => hd (by rw [e]; decide)) _ _ h
                  | i + 11, _, _, h => exact trivial
                · refine ⟨?_, ?_, ?_, ?_, ?_, ?_, ?_, ?_, ?_, ?_, ?_, trivial⟩
                  · intro vs wq hG hP hd
                    simp only [putL]
                    clear hd hP 
                    go_wp2
                    exact ⟨rfl, rfl, appR_b (by decide) (Below.refl _ _), rfl⟩
                  · intro vs wq hG hP hd
                    have n1 := hG.2.fits0 HK.out
                    have n2 := hG.2.agg0 HK.out
                    simp only [putL]
                    clear hd hP 
                    go_wp2
                    exact ⟨rfl, rfl, appR_b (by decide) (Below.refl _ _), rfl⟩
                  · intro vs wq hG hP hd
                    simp only [putL]
                    clear hd hP 
                    go_wp2
                    exact ⟨rfl, rfl, appR_b (by decide) (Below.refl _ _), rfl⟩
                  · intro vs wq hG hP hd
                    simp only [putL]
                    clear hd hP 
                    go_wp2
                    exact ⟨rfl, rfl, appR_b (by decide) (Below.refl _ _), rfl⟩
                  · intro vs wq hG hP hd
                    simp only [putL]
                    clear hd hP 
                    go_wp2
                    exact ⟨rfl, rfl, appR_b (by decide) (Below.refl _ _), rfl⟩
                  · intro vs wq hG hP hd
                    have h3 := hd.get 3 rfl
                    change vs 3 = _ at h3
                    have h4 := hd.get 4 rfl
                    change vs 4 = _ at h4
                    simp only [putL, h3, h4]
                    clear hd hP h3 h4
                    go_wp2
                    exact ⟨rfl, rfl, appR_b (by decide) (Below.refl _ _), rfl⟩
                  · intro vs wq hG hP hd
                    have h5 := hd.get 5 rfl
                    change vs 5 = _ at h5
                    have n1 := (hG.1.cell (p := ⟨rb, ro + i, none⟩) HRB.out).trans HRC.out
                    simp only [putL, h5]
                    clear hd hP h5
                    go_wp2
                    exact ⟨rfl, rfl, appR_b (by decide) (Below.refl _ _), rfl⟩
                  · intro vs wq hG hP hd
                    have h1 := hd.get 1 rfl
                    change vs 1 = _ at h1
                    have h2 := hd.get 2 rfl
                    change vs 2 = _ at h2
                    have h6 := hd.get 6 rfl
                    change vs 6 = _ at h6
                    have n1 := HK.out
                    simp only [putL, h1, h2, h6]
                    clear hd hP h1 h2 h6
                    go_wp2
                    exact ⟨rfl, rfl, appR_b (by decide) (Below.refl _ _), rfl⟩
                  · intro vs wq hG hP hd
                    have h7 := hd.get 7 rfl
                    change vs 7 = _ at h7
                    have n1 := HK.out
                    simp only [putL, h7]
                    have hne := Lib.hid (ownR_ne (hP (.inl rfl)))
                    clear hd hP h7
                    go_wp2
                    exact ⟨rfl, rfl, appR_b (by decide) ((Below.refl _ _).alloc (Nat.le_refl _) _), _, rfl, node_in1 wq ((kt, kc, ki + (i : Int)), par, u, false) HK.out, hne.out⟩
                  · intro vs wq hG hP hd
                    have h0 := hd.get 0 rfl
                    change vs 0 = _ at h0
                    obtain ⟨g4, h8, h4i, h4n⟩ := hd.get 8 rfl
                    simp only [putL, h0, h8]
                    have hOq := Lib.hid (hP (.inr rfl))
                    have h4I := Lib.hid h4i
                    have hGs := Lib.hid hG.1.size
                    clear hd hP h4i h4n h0 h8
                    go_wp2_with (at_builtin; refine Rec.wpList_app node45 rfl _ _ rfl X.heap.size (.slice pq ln cq) (L) [((kt, kc, ki + (i : Int)), par, u, false)] (L ++ [((kt, kc, ki + (i : Int)), par, u, false)]) rfl rfl hOq.out (some ⟨g4, 0, none⟩) 1 rfl h4I.out (fun e => by cases e) HLEN.out hGs.out ?_)
                    intro v' w' h1 h2 h3
                    exact ⟨rfl, rfl, appR_a h2 h3, h1⟩
                  · intro vs wq hG hP hd
                    have h9 := hd.get 9 rfl
                    simp only [putL]
                    clear hd hP
                    go_wp2
                    exact ⟨rfl, rfl, appR_b (by decide) (Below.refl _ _), h9⟩
                · intro vs wq hG hd
                  have h0 := hd.get 0 rfl
                  change vs 0 = _ at h0
                  have h1 := hd.get 1 rfl
                  change vs 1 = _ at h1
                  have h2 := hd.get 2 rfl
                  change vs 2 = _ at h2
                  have h3 := hd.get 3 rfl
                  change vs 3 = _ at h3
                  have h4 := hd.get 4 rfl
                  change vs 4 = _ at h4
                  have h5 := hd.get 5 rfl
                  change vs 5 = _ at h5
                  have h6 := hd.get 6 rfl
                  change vs 6 = _ at h6
                  have h7 := hd.get 7 rfl
                  change vs 7 = _ at h7
                  obtain ⟨g4, h8, _, _⟩ := hd.get 8 rfl
                  have H9 := Lib.hid (hd.get 9 rfl)
                  have H10 := Lib.hid (hd.get 10 rfl)
                  have HGq := Lib.hid hG.1
                  simp only [putL, List.getD_cons_zero, List.getD_cons_succ, Act.put, List.setIfInBounds_toArray, List.set_cons_zero, List.set_cons_succ, h0, h1, h2, h3, h4, h5, h6, h7, h8]
                  clear hd hG h0 h1 h2 h3 h4 h5 h6 h7 h8
                  generalize vs 9 = v9_ at *
                  generalize vs 10 = v10_ at *
                  obtain ⟨pz, cz, hvz, _, _, _, _⟩ := H10.out.sl
                  subst hvz
                  have HLZ := Lib.hid (show (L ++ [((kt, kc, ki + (i : Int)), par, u, false)]).length = ln + 1 by simp [HLN.out])
                  have HROWZ := H10
                  rw [HLZ.out] at HROWZ ⊢
                  clear H9 H10
                  go_wp2
                  go_roundg (gk - 1)
                  case measure => have := HG.out; have := HI.out; omega
                  case rel => exact ⟨i + 1, ln + 1, pz, cz, by have := HG.out; have := HI.out; omega, by go_num, rfl, by rw [HPN.out], by have := HLI.out; omega, by rw [HCH.out]; exact HROWZ.out, HNX.out, HGq.out⟩
              · have HJN := Lib.hid (show i = n by have := HG.out; omega)
                have HEF := Lib.hid (show E = 0 by
                  rw [HEQ.out, if_neg]
                  intro hh
                  unfold hitN at hh
                  rw [List.any_eq_true] at hh
                  obtain ⟨j, hj, hd⟩ := hh
                  have h1 : 0 ≤ plN l (kt, kc, ki + (j : Int)) := of_decide_eq_true hd
                  have h2 := HALL.out j (by rw [HJN.out]; exact List.mem_range.1 hj)
                  omega)
                have HSL2 := Lib.hid (show RD wr (.slice pq ln cq) LL by
                  have h9 := RD.row HROW.out
                  rw [HLL.out, if_pos HEF.out]
                  rw [HJN.out, HN.out, List.take_length] at h9
                  exact h9)
                go_wp2
                go_ret2
                exact ⟨_, by rw [HEF.out]; rfl, HSL2.out, HBW.out.trans ((HBX.out.trans (HB.out.mono HBX.out.size)).mono HBW.out.size)⟩
end Go.Proofs.Ytcgioboiebanpaa
