/- Pieces; whether a key follows the last one. -/
import Derived.Test.YtcgioboiebanpaaOb
namespace Go.Proofs.Ytcgioboiebanpaa
open Go.RowKit Go.Maps
set_option linter.unusedVariables false

/-- A piece: key, n, text. -/
abbrev PV := KV × Int × List UInt8
def strB (l : List UInt8) : ByteArray := ⟨l.toArray⟩
def pieceB (p : PV) : Array Value := keyB p.1.1 p.1.2.1 p.1.2.2 ++ #[.int .i64 p.2.1, .string (strB p.2.2)]
theorem pieceB_list (p : PV) : (pieceB p).toList = (keyB p.1.1 p.1.2.1 p.1.2.2).toList ++ [.int .i64 p.2.1, .string (strB p.2.2)] := by simp [pieceB]
theorem pieceB_size (p : PV) (h : p.1.2.1.length = 32) : (pieceB p).size = 36 := by rw [← Array.length_toList, pieceB_list]; simp [keyB_size, h]
def pieceR : Rec PV where
  enc p := (pieceB p).toList
  sz := 36
  ok p := p.1.2.1.length = 32
  pos := by decide
  len p h := by rw [Array.length_toList]; exact pieceB_size p h
  one p h u hu := by
    rw [pieceB_list] at hu
    simp only [List.mem_append, List.mem_cons, List.not_mem_nil, or_false] at hu
    rcases hu with hu | rfl | rfl
    · exact key_one _ _ _ u hu
    · rfl
    · rfl
/-- What stands at a piece's cells. -/
theorem piece_at {w : World} {b o : Nat} {p : PV} (h32 : p.1.2.1.length = 32) (h : pieceR.At w ⟨b, o, none⟩ p) :
    (fits w ⟨b, o, none⟩ 34 ∧ aggAt w ⟨b, o, none⟩ 34 = keyB p.1.1 p.1.2.1 p.1.2.2) ∧ w.cell? ⟨b, o + 34, none⟩ = some (.int .i64 p.2.1) ∧ w.cell? ⟨b, o + 35, none⟩ = some (.string (strB p.2.2)) := by
  obtain ⟨h1, h2⟩ := h
  have h1 : fits w ⟨b, o, none⟩ 36 := h1
  have h2 : (aggAt w ⟨b, o, none⟩ 36) = (pieceB p).toList.toArray := h2
  have hg : ∀ j, j < 36 → w.cell? ⟨b, o + j, none⟩ = (pieceB p).toList[j]? := fun j hj => by
    rw [aggAt_get h1 hj, h2, List.getElem?_toArray]
  have hk : (keyB p.1.1 p.1.2.1 p.1.2.2).toList.length = 34 := by rw [Array.length_toList, keyB_size, h32]
  have hf : fits w ⟨b, o, none⟩ 34 := by
    obtain ⟨h1, c, e, f, h2, h3⟩ := h1
    exact ⟨h1, c, e, f, h2, by simp only at h3 ⊢; omega⟩
  refine ⟨⟨hf, ?_⟩, ?_, ?_⟩
  · apply Array.ext_getElem?
    intro j
    by_cases hj : j < 34
    · rw [← aggAt_get hf hj]
      have := hg j (by omega)
      rw [this, pieceB_list, List.getElem?_append_left (by omega), Array.getElem?_toList]
    · rw [Array.getElem?_eq_none (by rw [aggAt_size hf]; omega), Array.getElem?_eq_none (by rw [keyB_size, h32]; omega)]
  · rw [hg 34 (by decide), pieceB_list, List.getElem?_append_right (by omega), hk]; rfl
  · rw [hg 35 (by decide), pieceB_list, List.getElem?_append_right (by omega), hk]; rfl
/-- What the closure says. -/
def followsB (O : List PV) (k : KV) : Bool := match O.getLast? with
  | some p => keyEq p.1.1 p.1.2.1 (wrap64 (p.1.2.2 + p.2.1)) k.1 k.2.1 k.2.2
  | none => false
set_option maxHeartbeats 4000000 in
set_option maxRecDepth 100000 in
theorem follows_any (base bo : Nat) (v : Value) (O : List PV) (k : KV) (w : World) (hk : k.2.1.length = 32) (hlen : O.length ≤ 100000) (hbo : w.heap[bo]? = some (.cells #[v] 36 (0, 0))) (hrow : pieceR.row 41 base O v w) :
    Calls Try.prog 27 #[.agg (keyB k.1 k.2.1 k.2.2), .pointer (some ⟨bo, 0, none⟩)] w fun e w' => e = .returned (.bool (followsB O k)) ∧ Below w.heap.size w w' := by
  obtain ⟨kt, kc, ki⟩ := k
  simp only at hk ⊢
  obtain ⟨W, hW⟩ : ∃ W, W = w.alloc (.cells (keyB kt kc ki) 26) := ⟨_, rfl⟩
  obtain ⟨b2, hb2⟩ : ∃ b, b = w.heap.size := ⟨_, rfl⟩
  have q1 := (Below.refl w.heap.size w).alloc (Nat.le_refl _) (.cells (keyB kt kc ki) 26)
  rw [← hW] at q1
  have hkb : W.heap[b2]? = some (.cells (keyB kt kc ki) 26 (0, 0)) := by rw [hW, hb2]; exact (MapKept.heap_alloc w _).1
  have HQ := Lib.hid q1
  have HK := Lib.hid hk
  have hbW := (q1.block bo (Array.getElem?_eq_some_iff.1 hbo).1).trans hbo
  have HROW := Lib.hid (hrow.below q1)
  have g1 := (blk_ld hkb (show _ = 34 by rw [keyB_size, hk])).1
  have g2 := (blk_ld hkb (show _ = 34 by rw [keyB_size, hk])).2
  have c0 : W.cell? ⟨bo, 0, none⟩ = some v := by rw [Lib.cell_of_heap hbW]; rfl
  have hbol : bo < W.heap.size := (Array.getElem?_eq_some_iff.1 hbW).1
  have hb2l : b2 < W.heap.size := (Array.getElem?_eq_some_iff.1 hkb).1
  clear q1 hbo hrow hkb hbW
  rcases List.eq_nil_or_concat O with rfl | ⟨O', p, rfl⟩
  · obtain ⟨a, cap, rfl, _⟩ := HROW.out.sl
    have d1 : ¬ (0 : Int) < ((([] : List PV).length : Nat) : Int) := by simp
    simp only [List.length_nil] at c0
    have hd : decide ((0 : Int) < 0) = false := by decide
    go_enter Try.func27, Try.ntmps27
    go_upto_region 1 with fail
    rw [← hW, ← hb2]
    clear hW hb2
    refine wp_region_over (by kernel_rfl) (by kernel_rfl) ?_
    repeat (go_big_quiet_step (fail))
    refine wpQuiet_nil ?_
    rintro _ ⟨z0, rfl⟩
    go_wp2
    go_ret
    exact ⟨rfl, HQ.out.trans ((ov_below W z0).mono HQ.out.size)⟩
  · rw [List.concat_eq_append] at hlen HROW ⊢
    obtain ⟨g, cap, rfl, _, _, _, hgl⟩ := HROW.out.some (by simp)
    have hp : (O' ++ [p])[O'.length]? = some p := by simp
    have hat := HROW.out.at hp
    have hp32 : p.1.2.1.length = 32 := HROW.out.1 p (by simp)
    obtain ⟨⟨e1, e2⟩, e3, _⟩ := piece_at hp32 hat
    have HF := Lib.hid (show followsB (O' ++ [p]) (kt, kc, ki) = keyEq p.1.1 p.1.2.1 (wrap64 (p.1.2.2 + p.2.1)) kt kc ki by unfold followsB; simp)
    obtain ⟨L, hL⟩ : ∃ L, L = (O' ++ [p]).length := ⟨_, rfl⟩
    rw [← hL] at c0
    obtain ⟨m, hm⟩ : ∃ m, m = O'.length := ⟨_, rfl⟩
    rw [← hm, show pieceR.sz = 36 from rfl] at e1 e2 e3
    have hLm : L = m + 1 := by rw [hL, hm]; simp
    have hl5 : L ≤ 100000 := by rw [hL]; exact hlen
    have w1 : IntKind.i64.wrap ((L : Int) - 1) = (m : Int) := by rw [IntWalk.i64_in _ (by omega)]; omega
    have i1 : (m : Int) < (L : Int) := by omega
    have i2 : (0 : Int) < (L : Int) := by omega
    have i3 : decide ((0 : Int) < (L : Int)) = true := decide_eq_true i2
    have i4 : 0 < L := by omega
    have i5 : decide (0 < L) = true := decide_eq_true i4
    obtain ⟨⟨pt, pc, pi⟩, pn, ps⟩ := p
    simp only at e2 e3 hp32 HF
    have HCL := Lib.hid (fun x0 => later_any pt pc pi pn hp32 (ov W x0))
    obtain ⟨I, hI⟩ : ∃ I, I = wrap64 (pi + pn) := ⟨_, rfl⟩
    rw [← hI] at HCL HF
    clear hp hat hL hm hLm hl5 hlen hI
    go_enter Try.func27, Try.ntmps27
    go_upto_region 1 with fail
    rw [← hW, ← hb2]
    clear hW hb2
    refine wp_region_over (by kernel_rfl) (by kernel_rfl) ?_
    repeat (go_big_quiet_step ((go_at_call 28; exact Calls.over_of (HCL.out _))))
    refine wpQuiet_nil ?_
    rintro _ ⟨z0, rfl⟩
    go_wp2
    go_ret
    exact ⟨ret_bool HF.out.symm, HQ.out.trans ((ov_below W z0).mono HQ.out.size)⟩
end Go.Proofs.Ytcgioboiebanpaa

namespace Go.Proofs.Ytcgioboiebanpaa
open Go.RowKit Go.Maps
set_option linter.unusedVariables false

theorem pc36 : pieceR.Ty Try.prog 36 41 72 := ⟨Try.underlying36, by kernel_rfl, by kernel_rfl, by decide⟩
def piece0 : PV := ((0, List.replicate 32 0, 0), 0, [])
theorem built41 (parts : List (Nat × Value)) : Try.prog.built 41 parts = Instr.fill (fun i => ([(0, 34), (34, 1), (35, 1)] : List (Nat × Nat)).toArray[i]?) (pieceB piece0) parts := by kernel_rfl
def isI64 (v : Value) : Prop := ∃ s, v = .int .i64 s
def isStr (v : Value) : Prop := ∃ s, v = .string s
@[go_sem] theorem isI64_mk (s : Int) : isI64 (.int .i64 s) := ⟨_, rfl⟩
@[go_sem] theorem isStr_mk (s : ByteArray) : isStr (.string s) := ⟨_, rfl⟩
@[go_sem ↓] theorem bld41_3 (f : Operand → Value) (a b c : Operand) (dst : Option Tmp) (ty' : TypeId) (pos : String) (after : Array Edge) (guard : Option (Nat × Bool)) (w : World) (ha : keyOk (f a)) (hb : isI64 (f b)) (hc : isStr (f c)) :
    (execOp f ⟨dst, .build 41 #[(0, a), (1, b), (2, c)], ty', pos, after, guard⟩).run Try.prog w = .ok (.value (.agg (aggOf (f a) ++ #[f b, f c]))) w := by
  obtain ⟨t, k, i, hx, hl⟩ := ha
  have hb' : (f b).cells = #[f b] := by obtain ⟨s, h⟩ := hb; rw [h]; rfl
  have hc' : (f c).cells = #[f c] := by obtain ⟨s, h⟩ := hc; rw [h]; rfl
  have hs : (keyB t k i).toList.length = 34 := by rw [Array.length_toList, keyB_size, hl]
  have hbt : Try.prog.built 41 ((#[(0, a), (1, b), (2, c)] : Array (Nat × Operand)).map fun (i, x) => (i, f x)).toList = some (aggOf (f a) ++ #[f b, f c]) := by
    obtain ⟨D, x, y, h0, hD⟩ : ∃ D x y, pieceB piece0 = (D ++ [x, y]).toArray ∧ D.length = 34 := by
      refine ⟨(keyB 0 (List.replicate 32 0) 0).toList, .int .i64 0, .string (strB []), ?_, by rw [Array.length_toList, keyB_size]; rfl⟩
      apply Array.ext'
      simp [pieceB, piece0]
    rw [built41, h0]
    have h1 := fill70 (keyB t k i).toList hs (f a) (f b) (by rw [hx]; simp [Value.cells]) hb' (fun i => ([(0, 34), (34, 1), (35, 1)] : List (Nat × Nat)).toArray[i]?) rfl rfl D x y hD [(2, f c)]
    have h2 := fill70b (keyB t k i).toList hs (f b) (f c) y hc' (fun i => ([(0, 34), (34, 1), (35, 1)] : List (Nat × Nat)).toArray[i]?) rfl
    refine Eq.trans ?_ (h1.trans (h2.trans ?_))
    · simp
    · rw [hx, aggOf_agg]
      congr 1
      apply Array.ext'
      simp
  unfold execOp
  simp only [Sem.run_bind, run_build w 41 _ _ hbt, Result.andThen_ok]
  rfl
def pvOk : Value → Prop := fun v => ∃ p : PV, v = .agg (pieceB p) ∧ p.1.2.1.length = 32
theorem pieceB_eq (t : Int) (c : List UInt8) (i n : Int) (s : List UInt8) : keyB t c i ++ #[.int .i64 n, .string (strB s)] = pieceB ((t, c, i), n, s) := rfl
@[go_sem] theorem pvOk_mk (t : Int) (c : List UInt8) (i n : Int) (s : List UInt8) (h : c.length = 32) : pvOk (.agg (keyB t c i ++ #[.int .i64 n, .string (strB s)])) := ⟨((t, c, i), n, s), rfl, h⟩
@[go_sem ↓] theorem build36 (f : Operand → Value) (y : Operand) (dst : Option Tmp) (ty' : TypeId) (pos : String) (after : Array Edge) (guard : Option (Nat × Bool)) (w : World) (hy : pvOk (f y)) :
    (execOp f ⟨dst, .buildSlice 36 1 #[(0, y)], ty', pos, after, guard⟩).run Try.prog w = .ok (.value (.slice (some ⟨w.heap.size, 0, none⟩) 1 1)) (w.alloc (.cells (aggOf (f y)) 41)) := by
  obtain ⟨x, hx, hl⟩ := hy
  have := Rec.run_lit pc36 w 1 [(f y, x)] (#[(0, y)].map fun (i, x) => (i, f x)) (by simp [Rec.parts]) rfl (by decide) (by decide) (by
    intro z hz; simp at hz; subst hz; exact ⟨hl, by rw [hx]; simp [pieceR, Value.cells]⟩)
  unfold execOp
  simp only [Sem.run_bind, this, Result.andThen_ok, hx, aggOf_agg]
  simp [Rec.cells, pieceR]

/-- Plain: the pieces. -/
def bump (p : PV) (r : MR) : PV := (p.1, p.2.1 + r.2.1.length, p.2.2 ++ textL r.2.1)
def addLast (O : List PV) (r : MR) : List PV := match O.getLast? with
  | some p => O.dropLast ++ [bump p r]
  | none => O
def pstep (st : List PV × Bool) (r : MR) : List PV × Bool :=
  if r.2.2 = true then (st.1, true)
  else if (!st.2 && followsB st.1 r.1) = true then (addLast st.1 r, false) else (st.1 ++ [(r.1, (r.2.1.length : Int), textL r.2.1)], false)
def pgo (rs : List MR) : List PV × Bool := rs.foldl pstep ([], true)
def piecesM (rs : List MR) : List PV := (pgo rs).1
theorem pgo_snoc (rs : List MR) (r : MR) : pgo (rs ++ [r]) = pstep (pgo rs) r := by simp [pgo]
/-- Bounds of pieces. -/
def pcB (M : Nat) (p : PV) : Prop := 0 ≤ p.2.1 ∧ p.2.1 ≤ M ∧ p.2.2.length ≤ 4 * M
theorem snoc_ind {α : Type} {P : List α → Prop} (h0 : P []) (h1 : ∀ l a, P l → P (l ++ [a])) (l : List α) : P l := by
  have h : ∀ m : List α, P m.reverse := fun m => by
    induction m with
    | nil => exact h0
    | cons a m ih => rw [List.reverse_cons]; exact h1 _ a ih
  have := h l.reverse
  rwa [List.reverse_reverse] at this
theorem pgo_len : ∀ (rs : List MR), (pgo rs).1.length ≤ rs.length := by
  refine snoc_ind (by simp [pgo]) fun rs r ih => ?_
  · skip
    rw [pgo_snoc, List.length_append]
    unfold pstep addLast
    split
    · simp; omega
    · split
      · split
        · rename_i p hp
          have h2 : (pgo rs).1 ≠ [] := by intro h; rw [h] at hp; simp at hp
          have : 0 < (pgo rs).1.length := List.length_pos_iff.2 h2
          simp; omega
        · simp; omega
      · simp; omega
theorem pgo_bd : ∀ (rs : List MR), ∀ p ∈ (pgo rs).1, pcB (tot rs) p := by
  refine snoc_ind (by simp [pgo]) fun rs r ih => ?_
  · skip
    have hm : ∀ p, pcB (tot rs) p → pcB (tot (rs ++ [r])) p := fun p h => by
      unfold pcB at *; rw [tot_append]; omega
    have ht : tot (rs ++ [r]) = tot rs + r.2.1.length := by rw [tot_append]; simp [tot]
    have hl := textL_len r.2.1
    rw [pgo_snoc]
    intro p hp
    unfold pstep addLast at hp
    split at hp
    · exact hm p (ih p hp)
    · split at hp
      · split at hp
        · rename_i q hq
          rcases List.mem_append.1 hp with hp | hp
          · exact hm p (ih p (List.dropLast_subset _ hp))
          · rw [List.mem_singleton.1 hp]
            have h1 := ih q (List.mem_of_getLast? hq)
            unfold pcB bump at *
            simp only [List.length_append]
            omega
        · exact hm p (ih p hp)
      · rcases List.mem_append.1 hp with hp | hp
        · exact hm p (ih p hp)
        · rw [List.mem_singleton.1 hp]
          unfold pcB
          simp only
          omega
theorem strB_add (a b : List UInt8) (h : a.length + b.length ≤ 1000000000) (w : World) : (Op.stringOp .add (strB a) (strB b)).run Try.prog w = .ok (.string (strB (a ++ b))) w := by
  have e : strB (a ++ b) = strB a ++ strB b := by
    unfold strB
    apply ByteArray.ext
    rw [ByteArray.data_append]
    simp
  rw [e]
  exact run_string_add_sum w _ _ (by show a.toArray.size + b.toArray.size ≤ _; simp; omega)
end Go.Proofs.Ytcgioboiebanpaa

namespace Go.Proofs.Ytcgioboiebanpaa
open Go.RowKit Go.Maps
set_option linter.unusedVariables false

def G2 (W : World) (g N T : Nat) (cur : Array Value) (w : World) : Prop := W.grownBy w (some g) ∧ ∃ c, w.heap[g]? = some (.cells c 41 (0, 0)) ∧ c.size = cur.size ∧ ∀ k, k ≠ N → k ≠ T → c[k]? = cur[k]?
def R2 (g N T : Nat) (v1 v2 : Value) (s1 s2 j : Nat) (w w' : World) : Prop := (j = s1 → w' = w.setCell ⟨g, N, none⟩ v1) ∧ (j = s2 → w' = w.setCell ⟨g, T, none⟩ v2) ∧ (j ≠ s1 → j ≠ s2 → w' = w)
def P2 (g N T : Nat) (o1 o2 : Value) (l1 l2 i : Nat) (w : World) : Prop := (i = l1 → w.cell? ⟨g, N, none⟩ = some o1) ∧ (i = l2 → w.cell? ⟨g, T, none⟩ = some o2)
def S2 (g k : Nat) (v : Value) : Value → World → Prop := fun _ w => w.cell? ⟨g, k, none⟩ = some v
theorem R2.same {g N T : Nat} {v1 v2 : Value} {s1 s2 j : Nat} {w : World} (h1 : j ≠ s1) (h2 : j ≠ s2) : R2 g N T v1 v2 s1 s2 j w w := ⟨fun e => absurd e h1, fun e => absurd e h2, fun _ _ => rfl⟩
theorem R2.of1 {g N T : Nat} {v1 v2 : Value} {s1 s2 : Nat} {w : World} (h : s1 ≠ s2) : R2 g N T v1 v2 s1 s2 s1 w (w.setCell ⟨g, N, none⟩ v1) := ⟨fun _ => rfl, fun e => absurd e h, fun e => absurd rfl e⟩
theorem R2.of2 {g N T : Nat} {v1 v2 : Value} {s1 s2 : Nat} {w : World} (h : s1 ≠ s2) : R2 g N T v1 v2 s1 s2 s2 w (w.setCell ⟨g, T, none⟩ v2) := ⟨fun e => absurd e.symm h, fun _ => rfl, fun _ e => absurd rfl e⟩
theorem G2.start {W : World} {g N T : Nat} {cur : Array Value} (h : W.heap[g]? = some (.cells cur 41 (0, 0))) : G2 W g N T cur W.drew := ⟨⟨rfl, rfl, rfl, Nat.le_refl _, fun _ _ _ => rfl⟩, cur, h, rfl, fun _ _ _ => rfl⟩
theorem G2.set {W w : World} {g N T k : Nat} {cur : Array Value} {v : Value} (h : G2 W g N T cur w) (hk : k = N ∨ k = T) : G2 W g N T cur (w.setCell ⟨g, k, none⟩ v) := by
  obtain ⟨hg, c, hc, hs, hh⟩ := h
  refine ⟨⟨hg.os, hg.tape, hg.output, by have := hg.size; simpa using this, fun i hi hn => (heap_setCell_ne w g k i v (fun e => hn (by rw [e]))).trans (hg.block i hi hn)⟩, _, heap_setCell_at hc v, by simp [hs], fun i h1 h2 => ?_⟩
  rw [Array.getElem?_setIfInBounds_ne (by rcases hk with rfl | rfl <;> omega)]
  exact hh i h1 h2
theorem G2.step {W w w' : World} {g N T : Nat} {cur : Array Value} {v1 v2 : Value} {s1 s2 j : Nat} (h : G2 W g N T cur w) (hs : s1 ≠ s2) (hr : R2 g N T v1 v2 s1 s2 j w w') : G2 W g N T cur w' := by
  by_cases h1 : j = s1
  · rw [hr.1 h1]; exact h.set (.inl rfl)
  · by_cases h2 : j = s2
    · rw [hr.2.1 h2]; exact h.set (.inr rfl)
    · rw [hr.2.2 h1 h2]; exact h
theorem cell_other (w : World) (g i k : Nat) (v : Value) (h : i ≠ k) : (w.setCell ⟨g, i, none⟩ v).cell? ⟨g, k, none⟩ = w.cell? ⟨g, k, none⟩ := by
  unfold World.cell?
  cases hh : w.heap[g]? with
  | none =>
    have : (w.setCell ⟨g, i, none⟩ v).heap[g]? = none := by
      rw [Array.getElem?_eq_none_iff] at hh ⊢; simpa using hh
    rw [this]
  | some o =>
    cases o with
    | cells c t f =>
      rw [heap_setCell_at hh]
      simp only
      rw [Array.getElem?_setIfInBounds_ne h]
    | _ =>
      have hl := (Array.getElem?_eq_some_iff.1 hh).1
      have hv := (Array.getElem?_eq_some_iff.1 hh).2
      have : (w.setCell ⟨g, i, none⟩ v).heap[g]? = w.heap[g]? := by
        simp [World.setCell, hl, Array.getElem_modify, hv]
      rw [this, hh]
theorem S2.st1 {g N T : Nat} {v1 v2 v v' : Value} {s1 s2 j : Nat} {w w' : World} (hNT : N ≠ T) (hj : j ≠ s1) (h : S2 g N v' v w) (hr : R2 g N T v1 v2 s1 s2 j w w') : S2 g N v' v w' := by
  by_cases h2 : j = s2
  · rw [hr.2.1 h2]; exact (cell_other w g T N v2 (fun e => hNT e.symm)).trans h
  · rw [hr.2.2 hj h2]; exact h
theorem S2.st2 {g N T : Nat} {v1 v2 v v' : Value} {s1 s2 j : Nat} {w w' : World} (hNT : N ≠ T) (hj : j ≠ s2) (h : S2 g T v' v w) (hr : R2 g N T v1 v2 s1 s2 j w w') : S2 g T v' v w' := by
  by_cases h1 : j = s1
  · rw [hr.1 h1]; exact (cell_other w g N T v1 hNT).trans h
  · rw [hr.2.2 h1 hj]; exact h
theorem G2.store1 {W w : World} {g N T : Nat} {cur : Array Value} (h : G2 W g N T cur w) (hn : N ≠ T ∧ N < cur.size ∧ T < cur.size) :
    w.frozen? ⟨g, N, none⟩ = false ∧ (∃ u, w.cell? ⟨g, N, none⟩ = some u) ∧ ∀ v v', S2 g N v v' (w.setCell ⟨g, N, none⟩ v) := by
  obtain ⟨hg, c, hc, hs, hh⟩ := h
  refine ⟨Lib.frozen_of_heap hc N, ⟨c[N]'(by omega), ?_⟩, fun v v' => ?_⟩
  · rw [Lib.cell_of_heap hc, Array.getElem?_eq_getElem]
  · unfold S2
    rw [Lib.cell_of_heap (heap_setCell_at hc v), Array.getElem?_setIfInBounds_self_of_lt (by omega)]
theorem G2.store2 {W w : World} {g N T : Nat} {cur : Array Value} (h : G2 W g N T cur w) (hn : N ≠ T ∧ N < cur.size ∧ T < cur.size) :
    w.frozen? ⟨g, T, none⟩ = false ∧ (∃ u, w.cell? ⟨g, T, none⟩ = some u) ∧ ∀ v v', S2 g T v v' (w.setCell ⟨g, T, none⟩ v) := by
  obtain ⟨hg, c, hc, hs, hh⟩ := h
  refine ⟨Lib.frozen_of_heap hc T, ⟨c[T]'(by omega), ?_⟩, fun v v' => ?_⟩
  · rw [Lib.cell_of_heap hc, Array.getElem?_eq_getElem]
  · unfold S2
    rw [Lib.cell_of_heap (heap_setCell_at hc v), Array.getElem?_setIfInBounds_self_of_lt (by omega)]
theorem G2.fin {W w : World} {g N T : Nat} {cur : Array Value} {v1 v2 u1 u2 : Value} (h : G2 W g N T cur w) (hn : N ≠ T ∧ N < cur.size ∧ T < cur.size) (h1 : S2 g N v1 u1 w) (h2 : S2 g T v2 u2 w) :
    w.heap[g]? = some (.cells ((cur.setIfInBounds N v1).setIfInBounds T v2) 41 (0, 0)) := by
  obtain ⟨hg, c, hc, hs, hh⟩ := h
  unfold S2 at h1 h2
  rw [Lib.cell_of_heap hc] at h1 h2
  rw [hc]
  have : c = (cur.setIfInBounds N v1).setIfInBounds T v2 := by
    apply Array.ext_getElem?
    intro i
    by_cases hT : i = T
    · subst hT
      rw [h2, Array.getElem?_setIfInBounds_self_of_lt (by simp; omega)]
    · rw [Array.getElem?_setIfInBounds_ne (fun e => hT e.symm)]
      by_cases hN : i = N
      · subst hN
        rw [h1, Array.getElem?_setIfInBounds_self_of_lt (by omega)]
      · rw [Array.getElem?_setIfInBounds_ne (fun e => hN e.symm)]
        exact hh i hN hT
  rw [this]
end Go.Proofs.Ytcgioboiebanpaa
