/- The reference's place: the walk. -/
import Derived.Test.YtcgioboiebanpaaRe
namespace Go.Proofs.Ytcgioboiebanpaa
open Go.RowKit
set_option linter.unusedVariables false

theorem keyEq_iff {a b : KV} : keyEq a.1 a.2.1 a.2.2 b.1 b.2.1 b.2.2 = true ↔ a = b := by
  obtain ⟨t, c, i⟩ := a
  obtain ⟨t', c', i'⟩ := b
  simp only [keyEq, Bool.and_eq_true, beq_iff_eq, Prod.mk.injEq]
set_option maxHeartbeats 4000000 in
set_option maxRecDepth 100000 in
theorem place_any (p : Option Addr) (c : Nat) (l : List Nd) (k : KV) (w : World) (hk : k.2.1.length = 32) (hlen : l.length ≤ 1000000) (hin : nodeR.In w p l) :
    Calls Try.prog 53 #[.slice p l.length c, .agg (keyB k.1 k.2.1 k.2.2)] w fun e w' => e = .returned (.int .i64 (plN l k)) ∧ Below w.heap.size w w' := by
  obtain ⟨kt, kc, ki⟩ := k
  simp only at hk ⊢
  obtain ⟨W, hW⟩ : ∃ W, W = w.alloc (.cells (keyB kt kc ki) 26) := ⟨_, rfl⟩
  obtain ⟨bk, hbk⟩ : ∃ b, b = w.heap.size := ⟨_, rfl⟩
  have q1 := (Below.refl w.heap.size w).alloc (Nat.le_refl _) (.cells (keyB kt kc ki) 26)
  rw [← hW] at q1
  have hkb : W.heap[bk]? = some (.cells (keyB kt kc ki) 26 (0, 0)) := by rw [hW, hbk]; exact (MapKept.heap_alloc w _).1
  have HQ := Lib.hid q1
  have HKB := Lib.hid hkb
  have HIN := Lib.hid (hin.below q1)
  have HK := Lib.hid hk
  have hks : (keyB kt kc ki).size = 34 := by rw [keyB_size, hk]
  have HKS := Lib.hid hks
  clear q1 hkb hin hks hk
  go_enter Try.func53, Try.ntmps53
  go_upto_region 1 with fail
  rw [← hW, ← hbk]
  clear hW hbk
  go_wp2_with fail
  go_loopg [5] l.length (fun g v wr => ∃ i : Nat, g + i = l.length ∧ v = .int .i64 i ∧ (∀ j, j < i → (l.getD j nd0).1 ≠ (kt, kc, ki)) ∧ Below W.heap.size W wr)
  case atStart => exact ⟨0, by omega, rfl, fun j hj => by omega, Below.refl _ _⟩
  case round =>
    obtain ⟨i, hg, rfl, hall, hbw⟩ := hrel
    have HG := Lib.hid hg
    have HA := Lib.hid hall
    have HB := Lib.hid hbw
    clear hg hall hbw
    by_cases hkx : i < l.length
    · have HKX := Lib.hid hkx
      obtain ⟨b, off, rfl, hlt, h32, hat⟩ := node_at (HIN.out.below HB.out) hkx
      have s1 := hat.kf
      have s2 := hat.ka
      have hk2 := (HB.out.block bk (Array.getElem?_eq_some_iff.1 HKB.out).1).trans HKB.out
      have g1 := (blk_ld hk2 HKS.out).1
      have g2 := (blk_ld hk2 HKS.out).2
      have g3 : bk < wr.heap.size := g1.lt
      have HKE := Lib.hid (keyEq_iff (a := (l.getD i nd0).1) (b := (kt, kc, ki)))
      have HE := Lib.hid (show (l.getD i nd0).1 = (kt, kc, ki) → plN l (kt, kc, ki) = i from fun he => plN_hit HKX.out he HA.out)
      have HNX := Lib.hid (show (l.getD i nd0).1 ≠ (kt, kc, ki) → ∀ j, j < i + 1 → (l.getD j nd0).1 ≠ (kt, kc, ki) from fun he j hj => by
        rcases Nat.lt_succ_iff_lt_or_eq.1 hj with h | rfl
        · exact HA.out j h
        · exact he)
      generalize l.getD i nd0 = y at *
      obtain ⟨⟨yt, yc, yi⟩, yp, yr, yd⟩ := y
      simp only at s2 HKE HE HNX h32
      have j1 : (i : Int) < l.length := by omega
      have j4 := HK.out
      clear hat hk2
      by_cases hke : keyEq yt yc yi kt kc ki = true
      · have HP := Lib.hid (HE.out (HKE.out.1 hke))
        go_wp2_with fail
        refine wp_region_over (by kernel_rfl) (by kernel_rfl) ?_
        repeat (go_big_quiet_step (fail))
        refine wpQuiet_nil ?_
        rintro _ ⟨z0, rfl⟩
        have HBZ := Lib.hid (HQ.out.trans ((HB.out.trans ((ov_below wr z0).mono HB.out.size)).mono HQ.out.size))
        clear s1 s2 g1 g2 g3
        go_wp2
        go_ret
        exact ⟨by rw [HP.out]; rfl, HBZ.out⟩
      · have hke' : keyEq yt yc yi kt kc ki = false := by simpa using hke
        have HN := Lib.hid (HNX.out (fun he => hke (HKE.out.2 he)))
        clear hke
        go_wp2_with fail
        refine wp_region_over (by kernel_rfl) (by kernel_rfl) ?_
        repeat (go_big_quiet_step (fail))
        refine wpQuiet_nil ?_
        rintro _ ⟨z0, rfl⟩
        have HBZ := Lib.hid (HB.out.trans ((ov_below wr z0).mono HB.out.size))
        clear s1 s2 g1 g2 g3
        go_wp2
        go_roundg (gk - 1)
        case measure => have := HG.out; have := HKX.out; omega
        case rel => exact ⟨i + 1, nat_step HG.out HKX.out, by go_num, HN.out, HBZ.out⟩
    · have HE := Lib.hid (show plN l (kt, kc, ki) = -1 from plN_no fun x hx he => by
        obtain ⟨j, hj, rfl⟩ := List.getElem_of_mem hx
        refine HA.out j (by omega) ?_
        simpa [List.getD_eq_getElem?_getD, hj] using he)
      go_wp2
      go_ret
      exact ⟨by rw [HE.out]; rfl, HQ.out.trans (HB.out.mono HQ.out.size)⟩
end Go.Proofs.Ytcgioboiebanpaa

namespace Go.Proofs.Ytcgioboiebanpaa
open Go.RowKit
set_option linter.unusedVariables false

theorem node45 : nodeR.Ty Try.prog 45 114 64 := ⟨Try.underlying45, by kernel_rfl, by kernel_rfl, by decide⟩
theorem pc93 : pieceR.Ty Try.prog 93 95 72 := ⟨Try.underlying93, by kernel_rfl, by kernel_rfl, by decide⟩
theorem row_new0 (w : World) : nodeR.row 114 w.heap.size [] (.slice (some ⟨w.heap.size, 0, none⟩) 0 0) (w.alloc (.cells #[] 114)) :=
  ⟨fun x hx => (by cases hx), rfl, .inr ⟨w.heap.size, 0, #[], rfl, Nat.le_refl _, (MapKept.heap_alloc w _).1, Nat.le_refl _, by unfold maxLen; omega, rfl, rfl⟩⟩
theorem fill114 (K : List Value) (hK : K.length = 34) (ka v1 v2 : Value) (ha : ka.cells = K.toArray) (h1 : v1.cells = #[v1]) (h2 : v2.cells = #[v2]) (pl : Nat → Option (Nat × Nat)) (p0 : pl 0 = some (0, 34)) (p1 : pl 1 = some (34, 1)) (p2 : pl 2 = some (35, 1)) (D : List Value) (x y z : Value) (hD : D.length = 34) :
    Instr.fill pl (D ++ [x, y, z]).toArray [(0, ka), (1, v1), (2, v2)] = some (K ++ [v1, v2, z]).toArray := by
  rw [fill_one (off := 0) (sz := 34) (c := K) p0 ha hK (by simp; omega)]
  have e1 : (D ++ [x, y, z]).take 0 ++ K ++ (D ++ [x, y, z]).drop (0 + 34) = K ++ [x, y, z] := by
    rw [List.take_zero, List.nil_append, Nat.zero_add, List.drop_append, List.drop_of_length_le (by omega), hD]; rfl
  rw [e1, fill_one (off := 34) (sz := 1) (c := [v1]) p1 (by rw [h1]) rfl (by simp; omega)]
  have e2 : (K ++ [x, y, z]).take 34 ++ [v1] ++ (K ++ [x, y, z]).drop (34 + 1) = K ++ [v1, y, z] := by
    rw [List.take_append, List.take_of_length_le (by omega), List.drop_append, List.drop_of_length_le (by omega), hK]; simp
  rw [e2, fill_one (off := 35) (sz := 1) (c := [v2]) p2 (by rw [h2]) rfl (by simp; omega)]
  have e3 : (K ++ [v1, y, z]).take 35 ++ [v2] ++ (K ++ [v1, y, z]).drop (35 + 1) = K ++ [v1, v2, z] := by
    rw [List.take_append, List.take_of_length_le (by omega), List.drop_append, List.drop_of_length_le (by omega), hK]; simp
  rw [e3]
  rfl
def isI32 (v : Value) : Prop := ∃ s, v = .int .i32 s
@[go_sem] theorem isI32_mk (s : Int) : isI32 (.int .i32 s) := ⟨_, rfl⟩
theorem built114 (parts : List (Nat × Value)) : Try.prog.built 114 parts = Instr.fill (fun i => ([(0, 34), (34, 1), (35, 1), (36, 1)] : List (Nat × Nat)).toArray[i]?) (ndB nd0) parts := by kernel_rfl
@[go_sem ↓] theorem bld114_3 (f : Operand → Value) (a b c : Operand) (dst : Option Tmp) (ty' : TypeId) (pos : String) (after : Array Edge) (guard : Option (Nat × Bool)) (w : World) (ha : keyOk (f a)) (hb : isI64 (f b)) (hc : isI32 (f c)) :
    (execOp f ⟨dst, .build 114 #[(0, a), (1, b), (2, c)], ty', pos, after, guard⟩).run Try.prog w = .ok (.value (.agg (aggOf (f a) ++ #[f b, f c, .bool false]))) w := by
  obtain ⟨t, k, i, hx, hl⟩ := ha
  have hb' : (f b).cells = #[f b] := by obtain ⟨s, h⟩ := hb; rw [h]; rfl
  have hc' : (f c).cells = #[f c] := by obtain ⟨s, h⟩ := hc; rw [h]; rfl
  have hs : (keyB t k i).toList.length = 34 := by rw [Array.length_toList, keyB_size, hl]
  have hbt : Try.prog.built 114 ((#[(0, a), (1, b), (2, c)] : Array (Nat × Operand)).map fun (i, x) => (i, f x)).toList = some (aggOf (f a) ++ #[f b, f c, .bool false]) := by
    obtain ⟨D, x, y, h0, hD⟩ : ∃ D x y, ndB nd0 = (D ++ [x, y, .bool false]).toArray ∧ D.length = 34 := by
      refine ⟨(keyB 0 (List.replicate 32 0) 0).toList, .int .i64 0, .int .i32 0, ?_, by rw [Array.length_toList, keyB_size]; rfl⟩
      apply Array.ext'
      simp [ndB, nd0, kNil]
    rw [built114, h0]
    have h1 := fill114 (keyB t k i).toList hs (f a) (f b) (f c) (by rw [hx]; simp [Value.cells]) hb' hc' (fun i => ([(0, 34), (34, 1), (35, 1), (36, 1)] : List (Nat × Nat)).toArray[i]?) rfl rfl rfl D x y (.bool false) hD
    refine Eq.trans ?_ (h1.trans ?_)
    · simp
    · rw [hx, aggOf_agg]
      congr 1
      apply Array.ext'
      simp
  unfold execOp
  simp only [Sem.run_bind, run_build w 114 _ _ hbt, Result.andThen_ok]
  rfl
theorem ndB_eq (t : Int) (c : List UInt8) (i p r : Int) : keyB t c i ++ #[.int .i64 p, .int .i32 r, .bool false] = ndB ((t, c, i), p, r, false) := rfl
@[go_sem] theorem ndOk_mk (t : Int) (c : List UInt8) (i p r : Int) (b : Bool) (h : c.length = 32) : ndOk (.agg (keyB t c i ++ #[.int .i64 p, .int .i32 r, .bool b])) := ⟨((t, c, i), p, r, b), rfl, h⟩
@[go_sem ↓] theorem build44 (f : Operand → Value) (y : Operand) (dst : Option Tmp) (ty' : TypeId) (pos : String) (after : Array Edge) (guard : Option (Nat × Bool)) (w : World) (hy : ndOk (f y)) :
    (execOp f ⟨dst, .buildSlice 44 1 #[(0, y)], ty', pos, after, guard⟩).run Try.prog w = .ok (.value (.slice (some ⟨w.heap.size, 0, none⟩) 1 1)) (w.alloc (.cells (aggC (f y)) 114)) := by
  obtain ⟨x, hx, hl⟩ := hy
  have := Rec.run_lit node22 w 1 [(f y, x)] (#[(0, y)].map fun (i, x) => (i, f x)) (by simp [Rec.parts]) rfl (by decide) (by decide) (by
    intro z hz; simp at hz; subst hz; exact ⟨hl, by rw [hx]; simp [nodeR, Value.cells]⟩)
  unfold execOp
  simp only [Sem.run_bind, this, Result.andThen_ok, hx, aggC_agg]
  simp [Rec.cells, nodeR]
@[go_sem ↓] theorem build45 (f : Operand → Value) (y : Operand) (dst : Option Tmp) (ty' : TypeId) (pos : String) (after : Array Edge) (guard : Option (Nat × Bool)) (w : World) (hy : ndOk (f y)) :
    (execOp f ⟨dst, .buildSlice 45 1 #[(0, y)], ty', pos, after, guard⟩).run Try.prog w = .ok (.value (.slice (some ⟨w.heap.size, 0, none⟩) 1 1)) (w.alloc (.cells (aggC (f y)) 114)) := by
  obtain ⟨x, hx, hl⟩ := hy
  have := Rec.run_lit node45 w 1 [(f y, x)] (#[(0, y)].map fun (i, x) => (i, f x)) (by simp [Rec.parts]) rfl (by decide) (by decide) (by
    intro z hz; simp at hz; subst hz; exact ⟨hl, by rw [hx]; simp [nodeR, Value.cells]⟩)
  unfold execOp
  simp only [Sem.run_bind, this, Result.andThen_ok, hx, aggC_agg]
  simp [Rec.cells, nodeR]
theorem built95 (parts : List (Nat × Value)) : Try.prog.built 95 parts = Instr.fill (fun i => ([(0, 34), (34, 1), (35, 1)] : List (Nat × Nat)).toArray[i]?) (pieceB piece0) parts := by kernel_rfl
@[go_sem ↓] theorem bld95_3 (f : Operand → Value) (a b c : Operand) (dst : Option Tmp) (ty' : TypeId) (pos : String) (after : Array Edge) (guard : Option (Nat × Bool)) (w : World) (ha : keyOk (f a)) (hb : isI64 (f b)) (hc : isStr (f c)) :
    (execOp f ⟨dst, .build 95 #[(0, a), (1, b), (2, c)], ty', pos, after, guard⟩).run Try.prog w = .ok (.value (.agg (aggOf (f a) ++ #[f b, f c]))) w := by
  obtain ⟨t, k, i, hx, hl⟩ := ha
  have hb' : (f b).cells = #[f b] := by obtain ⟨s, h⟩ := hb; rw [h]; rfl
  have hc' : (f c).cells = #[f c] := by obtain ⟨s, h⟩ := hc; rw [h]; rfl
  have hs : (keyB t k i).toList.length = 34 := by rw [Array.length_toList, keyB_size, hl]
  have hbt : Try.prog.built 95 ((#[(0, a), (1, b), (2, c)] : Array (Nat × Operand)).map fun (i, x) => (i, f x)).toList = some (aggOf (f a) ++ #[f b, f c]) := by
    obtain ⟨D, x, y, h0, hD⟩ : ∃ D x y, pieceB piece0 = (D ++ [x, y]).toArray ∧ D.length = 34 := by
      refine ⟨(keyB 0 (List.replicate 32 0) 0).toList, .int .i64 0, .string (strB []), ?_, by rw [Array.length_toList, keyB_size]; rfl⟩
      apply Array.ext'
      simp [pieceB, piece0]
    rw [built95, h0]
    have h1 := fill70 (keyB t k i).toList hs (f a) (f b) (by rw [hx]; simp [Value.cells]) hb' (fun i => ([(0, 34), (34, 1), (35, 1)] : List (Nat × Nat)).toArray[i]?) rfl rfl D x y hD [(2, f c)]
    have h2 := fill70b (keyB t k i).toList hs (f b) (f c) y hc' (fun i => ([(0, 34), (34, 1), (35, 1)] : List (Nat × Nat)).toArray[i]?) rfl
    refine Eq.trans ?_ (h1.trans (h2.trans ?_))
    · simp
    · rw [hx, aggOf_agg]
      congr 1
      apply Array.ext'
      simp
  unfold execOp
  simp only [Sem.run_bind, run_build w 95 _ _ hbt, Result.andThen_ok]
  rfl
@[go_sem ↓] theorem build93 (f : Operand → Value) (y : Operand) (dst : Option Tmp) (ty' : TypeId) (pos : String) (after : Array Edge) (guard : Option (Nat × Bool)) (w : World) (hy : pvOk (f y)) :
    (execOp f ⟨dst, .buildSlice 93 1 #[(0, y)], ty', pos, after, guard⟩).run Try.prog w = .ok (.value (.slice (some ⟨w.heap.size, 0, none⟩) 1 1)) (w.alloc (.cells (aggOf (f y)) 95)) := by
  obtain ⟨x, hx, hl⟩ := hy
  have := Rec.run_lit pc93 w 1 [(f y, x)] (#[(0, y)].map fun (i, x) => (i, f x)) (by simp [Rec.parts]) rfl (by decide) (by decide) (by
    intro z hz; simp at hz; subst hz; exact ⟨hl, by rw [hx]; simp [pieceR, Value.cells]⟩)
  unfold execOp
  simp only [Sem.run_bind, this, Result.andThen_ok, hx, aggOf_agg]
  simp [Rec.cells, pieceR]
end Go.Proofs.Ytcgioboiebanpaa

namespace Go.Proofs.Ytcgioboiebanpaa
open Go.RowKit
set_option linter.unusedVariables false

noncomputable def liveNT (l : List Nd) (O : List Nat) (k : Nat) : List Nd := ((O.take k).filter fun i => !deadN l i).map fun i => l.getD i nd0
theorem liveNT_succ (l : List Nd) (O : List Nat) (k : Nat) (h : k < O.length) : liveNT l O (k + 1) = if (l.getD (O.getD k 0) nd0).2.2.2 = true then liveNT l O k else liveNT l O k ++ [l.getD (O.getD k 0) nd0] := by
  unfold liveNT
  have : O.take (k + 1) = O.take k ++ [O.getD k 0] := by
    rw [List.take_succ_eq_append_getElem h, List.getD_eq_getElem?_getD, List.getElem?_eq_getElem h]; rfl
  rw [this, List.filter_append]
  generalize O.getD k 0 = x
  have e : deadN l x = (l.getD x nd0).2.2.2 := rfl
  rw [List.map_append]
  by_cases hd : (l.getD x nd0).2.2.2 = true
  · rw [if_pos hd, List.filter_cons_of_neg (by rw [e, hd]; simp)]; simp
  · rw [if_neg hd, List.filter_cons_of_pos (by rw [e]; simpa using hd)]; rfl
theorem liveNT_le (l : List Nd) (O : List Nat) (k : Nat) : (liveNT l O k).length ≤ O.length := by
  unfold liveNT
  rw [List.length_map]
  refine Nat.le_trans (List.length_filter_le _ _) ?_
  rw [List.length_take]
  omega
theorem liveNd_eq (l : List Nd) : liveNd l = liveNT l (ordN l) (ordN l).length := by unfold liveNd liveNT; rw [List.take_length]
theorem node_in1 (w : World) (y : Nd) (h : y.1.2.1.length = 32) : nodeR.In (w.alloc (.cells (ndB y) 114)) (some ⟨w.heap.size, 0, none⟩) [y] := by
  have := Rec.In.one (R := nodeR) w 114 y h
  rw [show (nodeR.enc y).toArray = ndB y by show (ndB y).toList.toArray = _; simp] at this
  exact this
set_option maxHeartbeats 4000000 in
set_option maxRecDepth 100000 in
theorem live_any (p : Option Addr) (c : Nat) (l : List Nd) (w : World) (hlen : l.length ≤ 1000) (hin : nodeR.In w p l) (hR : RightL l) :
    Calls Try.prog 38 #[.slice p l.length c] w fun e w' => ∃ v, e = .returned v ∧ nodeR.row 114 w.heap.size (liveNd l) v w' ∧ Below w.heap.size w w' := by
  have HX := Lib.hid hin
  have HT := Lib.hid (rorder_any p c l w hlen hin hR)
  clear hin
  go_enter Try.func38, Try.ntmps38
  go_wp2_with fail
  refine HT.out.mono ?_
  rintro e w1 ⟨v1, rfl, hr1, hb1⟩
  obtain ⟨p1, c1, rfl, _, _, hin1, _⟩ := hr1.sl
  have HI1 := Lib.hid hin1
  have HB1 := Lib.hid hb1
  have HLO := Lib.hid (ordN_le l)
  have HOL := Lib.hid (fun (k : Nat) (hk : k < (ordN l).length) => (show (ordN l).getD k 0 < l.length from ordN_lt (by
    rw [List.getD_eq_getElem?_getD, List.getElem?_eq_getElem hk]; exact List.getElem_mem hk)))
  have HLV := Lib.hid (liveNd_eq l)
  rw [toI_len]
  obtain ⟨O, hO⟩ : ∃ O, O = ordN l := ⟨_, rfl⟩
  rw [← hO] at HI1 HLO HOL HLV ⊢
  have hol := HLO.out
  clear hr1 hb1 hin1 hO hR
  go_wp2_with fail
  go_loopg [3, 5] O.length (fun g v3 v5 wr => ∃ k : Nat, g + k = O.length ∧ v5 = .int .i64 k ∧ nodeR.row 114 w1.heap.size (liveNT l O k) v3 wr ∧ Below w1.heap.size w1 wr)
  case atStart => exact ⟨0, by omega, rfl, Rec.row.nil, Below.refl _ _⟩
  case round =>
    obtain ⟨k, hg, rfl, hrow, hbw⟩ := hrel
    have HG := Lib.hid hg
    have HROW := Lib.hid hrow
    have HB := Lib.hid hbw
    obtain ⟨pq, cq, rfl, _, _, _, _⟩ := hrow.sl
    clear hg hbw hrow
    by_cases hk : k < O.length
    · have HKK := Lib.hid hk
      obtain ⟨x, hx⟩ : ∃ x, x = O.getD k 0 := ⟨_, rfl⟩
      have hxl := HOL.out k hk
      have HLS := Lib.hid (liveNT_succ l O k hk)
      have hxI : (toI O)[k]? = some (x : Int) := by
        unfold toI; rw [List.getElem?_map, hx]; simp [List.getD_eq_getElem?_getD, hk]
      rw [← hx] at hxl HLS
      rcases (HI1.out.below HB.out).2 with h | ⟨b1, o1, rfl, hlt1, hc1⟩
      · rw [h] at hxI; simp at hxI
      have q1 := int_cell (hc1 k _ hxI)
      obtain ⟨b, off, rfl, hlt, h32, hat⟩ := node_at (HX.out.below (HB1.out.trans (HB.out.mono HB1.out.size))) hxl
      have q2 := hat.d
      have q3 := hat.f
      have q4 := hat.a
      generalize l.getD x nd0 = y at *
      obtain ⟨yd, hyd⟩ : ∃ d, d = y.2.2.2 := ⟨_, rfl⟩
      rw [← hyd] at q2 HLS
      have i1 : (k : Int) < O.length := by omega
      have i2 : (x : Int) < l.length := by omega
      have H32 := Lib.hid h32
      clear hat hc1 hxI hx hyd h32
      obtain ⟨ln, hln⟩ : ∃ n, n = (liveNT l O k).length := ⟨_, rfl⟩
      have HLNE := Lib.hid hln
      rw [← hln] at HROW ⊢
      clear hln
      cases yd with
      | true =>
        have HF := Lib.hid (show liveNT l O (k + 1) = liveNT l O k by rw [HLS.out, if_pos rfl])
        go_wp2
        go_roundg (gk - 1)
        case measure => have := HG.out; have := HKK.out; omega
        case rel => exact ⟨k + 1, nat_step HG.out HKK.out, by go_num, by rw [HF.out]; exact HROW.out, HB.out⟩
      | false =>
        have HF := Lib.hid (show liveNT l O (k + 1) = liveNT l O k ++ [y] by rw [HLS.out, if_neg (by simp)])
        have g2 : ndOk (.agg (ndB y)) := ⟨y, rfl, H32.out⟩
        have hb2 := (Below.refl wr.heap.size wr).alloc (Nat.le_refl _) (.cells (ndB y) 114)
        have HA := Lib.hid (node_in1 wr y H32.out)
        have HROW1 := Lib.hid (HROW.out.below hb2)
        have HBA := Lib.hid (HB.out.trans (hb2.mono HB.out.size))
        have HLN := Lib.hid (show (liveNT l O k).length + [y].length ≤ 100000000 by have := liveNT_le l O k; simp; omega)
        have HS1 := Lib.hid HBA.out.size
        clear hb2
        go_wp2_with (at_builtin; refine Rec.wpList_app node22 rfl _ _ rfl w1.heap.size _ (liveNT l O k) [y] (liveNT l O (k + 1)) HF.out rfl HROW1.out (some ⟨wr.heap.size, 0, none⟩) 1 rfl HA.out (fun h => by cases h) HLN.out HS1.out ?_)
        intro v' w3 hr3 hg3 hb3
        have HR3 := Lib.hid hr3
        have HB3 := Lib.hid (HBA.out.trans hb3)
        clear hr3 hg3 hb3 q1 q2 q3 q4 g2
        go_wp2
        go_roundg (gk - 1)
        case measure => have := HG.out; have := HKK.out; omega
        case rel => exact ⟨k + 1, nat_step HG.out HKK.out, by go_num, HR3.out, HB3.out⟩
    · have hke : k = O.length := by have := HG.out; omega
      subst hke
      have HROW2 := Lib.hid HROW.out
      go_wp2
      go_ret
      exact ⟨_, rfl, by rw [HLV.out]; exact HROW.out.base HB1.out.size, HB1.out.trans (HB.out.mono HB1.out.size)⟩
set_option maxRecDepth 100000 in
theorem results36 (tmps : Array Value) (w : World) (b4 : Nat) (k : KV) (e : Int) (hk : k.2.1.length = 32) (h4 : tmps.getD 4 undef = .pointer (some ⟨b4, 0, none⟩)) (h5 : tmps.getD 5 undef = .int .i64 e)
    (hb4 : w.heap[b4]? = some (.cells (keyB k.1 k.2.1 k.2.2) 26 (0, 0))) :
    (results Try.f36 tmps).run Try.prog w = .ok (.tuple #[.agg (keyB k.1 k.2.1 k.2.2), .int .i64 e]) w := by
  have hcs : (Try.prog.info? 26).map (·.size) = some (keyB k.1 k.2.1 k.2.2).size := by
    rw [keyB_size, hk]; kernel_rfl
  have hr := run_loadVar_row (P := Try.prog) w b4 26 26 (keyB k.1 k.2.1 k.2.2) (0, 0) _ hb4 Try.underlying26 rfl hcs
  have h4' : tmps[4]?.getD undef = .pointer (some ⟨b4, 0, none⟩) := by simpa using h4
  have h5' : tmps[5]?.getD undef = .int .i64 e := by simpa using h5
  simp [results, h4', h5', asAddr, hr]
theorem setRow_below {w0 w : World} {b : Nat} {base : Nat} (h : Below base w0 w) (hb : base ≤ b) (c : Array Value) : Below base w0 (w.setRow b c) :=
  h.trans ⟨rfl, rfl, rfl, by simp [World.setRow], fun k hk => setRow_other w b k c (by omega)⟩
set_option maxHeartbeats 4000000 in
set_option maxRecDepth 100000 in
theorem rat_any (p : Option Addr) (c : Nat) (l : List Nd) (n : Int) (w : World) (hlen : l.length ≤ 1000) (hin : nodeR.In w p l) (hR : RightL l) :
    Calls Try.prog 36 #[.slice p l.length c, .int .i64 n] w fun e w' => e = .returned (.tuple #[.agg (keyB (rAt (liveNd l) n).1.1 (rAt (liveNd l) n).1.2.1 (rAt (liveNd l) n).1.2.2), .int .i64 (rAt (liveNd l) n).2]) ∧ Below w.heap.size w w' := by
  have HX := Lib.hid hin
  have HLL := Lib.hid (show (liveNd l).length ≤ 1000 by
    have h1 := liveNT_le l (ordN l) (ordN l).length
    rw [← liveNd_eq] at h1
    have h2 := ordN_le l
    omega)
  clear hin
  go_enter Try.func36, Try.ntmps36
  go_upto_region 1 with fail
  generalize hW : w.alloc _ = W
  obtain ⟨bk, hbk⟩ : ∃ b, b = w.heap.size := ⟨_, rfl⟩
  have q1 : Below w.heap.size w W := by rw [← hW]; exact (Below.refl w.heap.size w).alloc (Nat.le_refl _) _
  have hkb : W.heap[bk]? = some (.cells key0 26 (0, 0)) := by rw [← hW, hbk]; exact (MapKept.heap_alloc w _).1
  have HQ := Lib.hid q1
  have HKB := Lib.hid hkb
  have HT := Lib.hid (live_any p c l W hlen (HX.out.below q1) hR)
  have HBK := Lib.hid hbk
  rw [← hbk]
  clear q1 hkb hR hW hbk
  go_wp2_with fail
  refine HT.out.mono ?_
  rintro e w1 ⟨v1, rfl, hr1, hb1⟩
  obtain ⟨p1, c1, rfl, _, _, hin1, _⟩ := hr1.sl
  have HI1 := Lib.hid hin1
  have HB1 := Lib.hid (HQ.out.trans (hb1.mono HQ.out.size))
  have HK1 := Lib.hid ((hb1.block bk (Array.getElem?_eq_some_iff.1 HKB.out).1).trans HKB.out)
  obtain ⟨L, hL⟩ : ∃ L, L = liveNd l := ⟨_, rfl⟩
  rw [← hL] at HI1 HLL ⊢
  have HLE := Lib.hid hL
  clear hr1 hb1 hin1 hL HT
  have hLL := HLL.out
  have HEQ := Lib.hid (show rAt L n = if n < 0 ∨ (L.length : Int) ≤ n then (kNil, 4) else ((L.getD n.toNat nd0).1, 0) from rfl)
  have z4 : szAt w1 bk = some 34 := szAt_of HK1.out
  by_cases ho : n < 0 ∨ (L.length : Int) ≤ n
  · have HV := Lib.hid (show rAt L n = (kNil, 4) by rw [HEQ.out, if_pos ho])
    have HS4 := Lib.hid (setRow_heap w1 bk key0 key0 26 (0, 0) HK1.out)
    have HFB := Lib.hid (setRow_below HB1.out (show w.heap.size ≤ bk by rw [HBK.out]; exact Nat.le_refl _) key0)
    by_cases hn : n < 0
    · go_wp2
      refine ⟨rfl, _, results36 _ _ bk kNil 4 rfl rfl rfl HS4.out, by rw [← HLE.out, HV.out], HFB.out⟩
    · have hn2 : (L.length : Int) ≤ n := by omega
      go_wp2
      refine ⟨rfl, _, results36 _ _ bk kNil 4 rfl rfl rfl HS4.out, by rw [← HLE.out, HV.out], HFB.out⟩
  · obtain ⟨m, rfl⟩ : ∃ m : Nat, n = m := ⟨n.toNat, by omega⟩
    have hn1 : ¬ ((m : Int) < 0) := by omega
    have hn2 : ¬ ((L.length : Int) ≤ m) := by omega
    have hm : m < L.length := by omega
    have HV := Lib.hid (show rAt L (m : Int) = ((L.getD m nd0).1, 0) by rw [HEQ.out, if_neg ho, Int.toNat_natCast])
    obtain ⟨b, off, rfl, hlt, h32, hat⟩ := node_at HI1.out hm
    have s1 := hat.kf
    have s2 := hat.ka
    generalize L.getD m nd0 = y at *
    obtain ⟨⟨yt, yc, yi⟩, yp, yr, yd⟩ := y
    simp only at s2 h32
    have HS4 := Lib.hid (setRow_heap w1 bk key0 (keyB yt yc yi) 26 (0, 0) HK1.out)
    have HFB := Lib.hid (setRow_below HB1.out (show w.heap.size ≤ bk by rw [HBK.out]; exact Nat.le_refl _) (keyB yt yc yi))
    have i1 : (m : Int) < L.length := by omega
    have hk34 := aggN_key yt yc yi h32
    have H32 := Lib.hid h32
    clear hat ho
    go_wp2
    refine ⟨rfl, _, results36 _ _ bk (yt, yc, yi) 0 H32.out rfl rfl HS4.out, by rw [← HLE.out, HV.out], HFB.out⟩
end Go.Proofs.Ytcgioboiebanpaa

namespace Go.Proofs.Ytcgioboiebanpaa
open Go.RowKit
set_option linter.unusedVariables false

set_option maxHeartbeats 8000000 in
set_option maxRecDepth 100000 in
theorem rfind_any (p : Option Addr) (c : Nat) (l : List Nd) (k : KV) (w : World) (hk : k.2.1.length = 32) (hlen : l.length ≤ 1000) (hin : nodeR.In w p l) (hR : RightL l) :
    Calls Try.prog 35 #[.slice p l.length c, .agg (keyB k.1 k.2.1 k.2.2)] w fun e w' => e = .returned (.tuple #[.int .i64 (rFind l k).1, .bool (rFind l k).2.1, .int .i64 (rFind l k).2.2]) ∧ Below w.heap.size w w' := by
  obtain ⟨kt, kc, ki⟩ := k
  simp only at hk ⊢
  obtain ⟨W, hW⟩ : ∃ W, W = w.alloc (.cells (keyB kt kc ki) 26) := ⟨_, rfl⟩
  obtain ⟨bk, hbk⟩ : ∃ b, b = w.heap.size := ⟨_, rfl⟩
  have q1 := (Below.refl w.heap.size w).alloc (Nat.le_refl _) (.cells (keyB kt kc ki) 26)
  rw [← hW] at q1
  have hkb : W.heap[bk]? = some (.cells (keyB kt kc ki) 26 (0, 0)) := by rw [hW, hbk]; exact (MapKept.heap_alloc w _).1
  have HQ := Lib.hid q1
  have HKB := Lib.hid hkb
  have HX := Lib.hid (hin.below q1)
  have HT := Lib.hid (rorder_any p c l W hlen (hin.below q1) hR)
  have HK := Lib.hid hk
  have hks : (keyB kt kc ki).size = 34 := by rw [keyB_size, hk]
  have HKS := Lib.hid hks
  have HLO := Lib.hid (ordN_le l)
  have HOL := Lib.hid (fun (k : Nat) (hk : k < (ordN l).length) => (show (ordN l).getD k 0 < l.length from ordN_lt (by
    rw [List.getD_eq_getElem?_getD, List.getElem?_eq_getElem hk]; exact List.getElem_mem hk)))
  have HF := Lib.hid (show rFind l (kt, kc, ki) = findL (kt, kc, ki) 0 ((ordN l).map (elN l)) from rfl)
  obtain ⟨FF, hFF⟩ : ∃ FF, FF = rFind l (kt, kc, ki) := ⟨_, rfl⟩
  rw [← hFF] at HF ⊢
  clear q1 hkb hin hks hk hFF hR
  go_enter Try.func35, Try.ntmps35
  go_upto_region 1 with fail
  rw [← hW, ← hbk]
  clear hW hbk
  go_wp2_with fail
  refine HT.out.mono ?_
  rintro e w1 ⟨v1, rfl, hr1, hb1⟩
  obtain ⟨p1, c1, rfl, _, _, hin1, _⟩ := hr1.sl
  have HI1 := Lib.hid hin1
  have HB1 := Lib.hid hb1
  rw [toI_len]
  obtain ⟨O, hO⟩ : ∃ O, O = ordN l := ⟨_, rfl⟩
  rw [← hO] at HI1 HLO HOL HF ⊢
  have hol := HLO.out
  clear hr1 hb1 hin1 hO HT
  go_wp2_with fail
  go_loopg [8, 9] O.length (fun g v8 v9 wr => ∃ i n : Nat, g + i = O.length ∧ v9 = .int .i64 i ∧ v8 = .int .i64 n ∧ n ≤ i ∧ FF = findL (kt, kc, ki) n ((O.drop i).map (elN l)) ∧ Below w1.heap.size w1 wr)
  case atStart => exact ⟨0, 0, by omega, rfl, rfl, Nat.le_refl _, by rw [HF.out]; rfl, Below.refl _ _⟩
  case round =>
    obtain ⟨i, n, hg, rfl, rfl, hni, hff, hbw⟩ := hrel
    have HG := Lib.hid hg
    have HNI := Lib.hid hni
    have HFF := Lib.hid hff
    have HB := Lib.hid hbw
    clear hg hni hff hbw
    by_cases hkx : i < O.length
    · have HKX := Lib.hid hkx
      obtain ⟨x, hx⟩ : ∃ x, x = O.getD i 0 := ⟨_, rfl⟩
      have hxl := HOL.out i hkx
      have hxI : (toI O)[i]? = some (x : Int) := by
        unfold toI; rw [List.getElem?_map, hx]; simp [List.getD_eq_getElem?_getD, hkx]
      rw [← hx] at hxl
      have HDR := Lib.hid (show (O.drop i).map (elN l) = elX (l.getD x nd0) :: (O.drop (i + 1)).map (elN l) by
        have : O.drop i = x :: O.drop (i + 1) := by
          rw [List.drop_eq_getElem_cons hkx, hx]; simp [List.getD_eq_getElem?_getD, hkx]
        rw [this]; rfl)
      rcases (HI1.out.below HB.out).2 with h | ⟨b1, o1, rfl, hlt1, hc1⟩
      · rw [h] at hxI; simp at hxI
      have q1 := int_cell (hc1 i _ hxI)
      obtain ⟨b, off, rfl, hlt, h32, hat⟩ := node_at (HX.out.below (HB1.out.trans (HB.out.mono HB1.out.size))) hxl
      have s1 := hat.kf
      have s2 := hat.ka
      have s3 := hat.d
      have hk2 := ((HB1.out.trans (HB.out.mono HB1.out.size)).block bk (Array.getElem?_eq_some_iff.1 HKB.out).1).trans HKB.out
      have g1 := (blk_ld hk2 HKS.out).1
      have g2 := (blk_ld hk2 HKS.out).2
      have g3 : bk < wr.heap.size := g1.lt
      have HKE := Lib.hid (keyEq_iff (a := (l.getD x nd0).1) (b := (kt, kc, ki)))
      generalize l.getD x nd0 = y at *
      obtain ⟨⟨yt, yc, yi⟩, yp, yr, yd⟩ := y
      simp only at s2 s3 HKE h32
      have HSTEP := Lib.hid (show FF = if (yt, yc, yi) = (kt, kc, ki) then ((n : Int), !yd, 0) else findL (kt, kc, ki) (if yd = true then (n : Int) else (n : Int) + 1) ((O.drop (i + 1)).map (elN l)) by
        rw [HFF.out, HDR.out]; rfl)
      have j1 : (i : Int) < O.length := by omega
      have j2 : (x : Int) < l.length := by omega
      have j4 := HK.out
      clear hat hk2 hxI hc1 hx
      by_cases hke : keyEq yt yc yi kt kc ki = true
      · have HP := Lib.hid (show FF = ((n : Int), !yd, 0) by rw [HSTEP.out, if_pos (HKE.out.1 hke)])
        go_wp2_with fail
        refine wp_region_over (by kernel_rfl) (by kernel_rfl) ?_
        repeat (go_big_quiet_step (fail))
        refine wpQuiet_nil ?_
        rintro _ ⟨z0, rfl⟩
        have hbz := ov_below wr z0
        have HBZ := Lib.hid (HB.out.trans (hbz.mono HB.out.size))
        have q1' := (hbz.cell (p := ⟨b1, o1 + i, none⟩) hlt1).trans q1
        have s3' := (hbz.cell (p := ⟨b, off + x * 37 + 36, none⟩) hlt).trans s3
        have hlt1' := Nat.lt_of_lt_of_le hlt1 hbz.size
        have hlt' := Nat.lt_of_lt_of_le hlt hbz.size
        clear s1 s2 g1 g2 g3 q1 s3 hlt hlt1 hbz
        generalize ov wr z0 = wz at *
        go_wp2_with fail
        refine wp_region_over (by kernel_rfl) (by kernel_rfl) ?_
        repeat (go_big_quiet_step (fail))
        refine wpQuiet_nil ?_
        rintro _ ⟨z1, rfl⟩
        have HBZ2 := Lib.hid (HQ.out.trans ((HB1.out.trans ((HBZ.out.trans ((ov_below wz z1).mono HBZ.out.size)).mono HB1.out.size)).mono HQ.out.size))
        clear q1' s3'
        go_wp2
        go_ret3
        exact ⟨by rw [HP.out]; rfl, HBZ2.out⟩
      · have hke' : keyEq yt yc yi kt kc ki = false := by simpa using hke
        have HN := Lib.hid (show FF = findL (kt, kc, ki) (if yd = true then (n : Int) else (n : Int) + 1) ((O.drop (i + 1)).map (elN l)) by
          rw [HSTEP.out, if_neg (fun he => hke (HKE.out.2 he))])
        clear hke
        go_wp2_with fail
        refine wp_region_over (by kernel_rfl) (by kernel_rfl) ?_
        repeat (go_big_quiet_step (fail))
        refine wpQuiet_nil ?_
        rintro _ ⟨z0, rfl⟩
        have hbz := ov_below wr z0
        have HBZ := Lib.hid (HB.out.trans (hbz.mono HB.out.size))
        have q1' := (hbz.cell (p := ⟨b1, o1 + i, none⟩) hlt1).trans q1
        have s3' := (hbz.cell (p := ⟨b, off + x * 37 + 36, none⟩) hlt).trans s3
        clear s1 s2 g1 g2 g3 q1 s3 hlt hlt1 hbz
        generalize ov wr z0 = wz at *
        cases yd with
        | true =>
          go_wp2
          go_roundg (gk - 1)
          case measure => have := HG.out; have := HKX.out; omega
          case rel => exact ⟨i + 1, n, nat_step HG.out HKX.out, by go_num, rfl, by have := HNI.out; omega, by rw [HN.out]; rfl, HBZ.out⟩
        | false =>
          have hn1 : n ≤ 1000 := by have := HNI.out; omega
          go_wp2
          go_roundg (gk - 1)
          case measure => have := HG.out; have := HKX.out; omega
          case rel => exact ⟨i + 1, n + 1, nat_step HG.out HKX.out, by go_num, by go_num, by have := HNI.out; omega, by rw [HN.out]; rfl, HBZ.out⟩
    · have HE := Lib.hid (show FF = (0, false, 12) by
        rw [HFF.out, List.drop_of_length_le (by omega)]; rfl)
      go_wp2
      go_ret3
      exact ⟨by rw [HE.out]; rfl, HQ.out.trans ((HB1.out.trans (HB.out.mono HB1.out.size)).mono HQ.out.size)⟩
end Go.Proofs.Ytcgioboiebanpaa
