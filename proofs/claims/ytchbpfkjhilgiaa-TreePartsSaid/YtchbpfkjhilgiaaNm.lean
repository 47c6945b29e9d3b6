/- told: a copy of elements as the program's. -/
import Derived.Test.YtchbpfkjhilgiaaNl
import Derived.Test.YtchbpfkjhilgiaaAp
namespace Go.Proofs.Ytchbpfkjhilgiaa
open Go.RowKit
set_option linter.unusedVariables false

theorem fill41 (K : List Value) (hK : K.length = 34) (va vp vr vd : Value) (ha : va.cells = K.toArray) (hp : cellV vp) (hr : cellV vr) (hd : cellV vd) (pl : Nat → Option (Nat × Nat)) (h0 : pl 0 = some (0, 34)) (h1 : pl 1 = some (34, 1)) (h2 : pl 2 = some (35, 1)) (h3 : pl 3 = some (36, 1))
    (cs : List Value) (hc : cs.length = 37) : Instr.fill pl cs.toArray [(0, va), (1, vp), (2, vr), (3, vd)] = some (K ++ [vp, vr, vd]).toArray := by
  obtain ⟨D, x, y, z, hD, rfl⟩ : ∃ D x y z, D.length = 34 ∧ cs = D ++ [x, y, z] := by
    refine ⟨cs.take 34, cs[34], cs[35], cs[36], by simp; omega, ?_⟩
    apply List.ext_getElem?
    intro i
    by_cases hi : i < 34
    · rw [List.getElem?_append_left (by simp; omega), List.getElem?_take, if_pos hi]
    · rw [List.getElem?_append_right (by simp; omega)]
      have : (cs.take 34).length = 34 := by simp; omega
      rw [this]
      match i, hi with
      | 34, _ => simp [hc]
      | 35, _ => simp [hc]
      | 36, _ => simp [hc]
      | i + 37, _ => rw [List.getElem?_eq_none (by omega)]; simp
  rw [fill_one (off := 0) (sz := 34) (c := K) h0 ha hK (by simp; omega)]
  have e1 : (D ++ [x, y, z]).take 0 ++ K ++ (D ++ [x, y, z]).drop (0 + 34) = K ++ [x, y, z] := by
    rw [List.take_zero, List.nil_append, Nat.zero_add, List.drop_append, List.drop_of_length_le (by omega), hD]; rfl
  rw [e1, fill_one (off := 34) (sz := 1) (c := [vp]) h1 (by rw [hp]) rfl (by simp; omega)]
  have e2 : (K ++ [x, y, z]).take 34 ++ [vp] ++ (K ++ [x, y, z]).drop (34 + 1) = K ++ [vp, y, z] := by
    rw [List.take_append, List.take_of_length_le (by omega), List.drop_append, List.drop_of_length_le (by omega), hK]; simp
  rw [e2, fill_one (off := 35) (sz := 1) (c := [vr]) h2 (by rw [hr]) rfl (by simp; omega)]
  have e3 : (K ++ [vp, y, z]).take 35 ++ [vr] ++ (K ++ [vp, y, z]).drop (35 + 1) = K ++ [vp, vr, z] := by
    rw [List.take_append, List.take_of_length_le (by omega), List.drop_append, List.drop_of_length_le (by omega), hK]; simp
  rw [e3, fill_one (off := 36) (sz := 1) (c := [vd]) h3 (by rw [hd]) rfl (by simp; omega)]
  have e4 : (K ++ [vp, vr, z]).take 36 ++ [vd] ++ (K ++ [vp, vr, z]).drop (36 + 1) = K ++ [vp, vr, vd] := by
    rw [List.take_append, List.take_of_length_le (by omega), List.drop_append, List.drop_of_length_le (by omega), hK]; simp
  rw [e4]
  rfl
theorem built41 (parts : List (Nat × Value)) : Try.prog.built 41 parts = Instr.fill (fun i => ([(0, 34), (34, 1), (35, 1), (36, 1)] : List (Nat × Nat)).toArray[i]?) (ndB ((0, List.replicate 32 0, 0), 0, 0, false)) parts := by kernel_rfl
@[go_sem ↓] theorem bld41 (f : Operand → Value) (a b c d : Operand) (dst : Option Tmp) (ty' : TypeId) (pos : String) (after : Array Edge) (guard : Option (Nat × Bool)) (w : World) (ha : kyOk (f a)) (hb : cellV (f b)) (hc : cellV (f c)) (hd : cellV (f d)) :
    (execOp f ⟨dst, .build 41 #[(0, a), (1, b), (2, c), (3, d)], ty', pos, after, guard⟩).run Try.prog w = .ok (.value (.agg (aggC (f a) ++ #[f b, f c, f d]))) w := by
  obtain ⟨x, hx, hl⟩ := ha
  have hs : (keyB x.1 x.2.1 x.2.2).toList.length = 34 := by rw [Array.length_toList, keyB_size, hl]
  have hbt : Try.prog.built 41 ((#[(0, a), (1, b), (2, c), (3, d)] : Array (Nat × Operand)).map fun (i, x) => (i, f x)).toList = some (aggC (f a) ++ #[f b, f c, f d]) := by
    rw [built41]
    have h0 : (ndB ((0, List.replicate 32 0, 0), 0, 0, false)) = (ndB ((0, List.replicate 32 0, 0), 0, 0, false)).toList.toArray := by simp
    rw [h0]
    have := fill41 (keyB x.1 x.2.1 x.2.2).toList hs (f a) (f b) (f c) (f d) (by rw [hx]; simp [Value.cells]) hb hc hd (fun i => ([(0, 34), (34, 1), (35, 1), (36, 1)] : List (Nat × Nat)).toArray[i]?) rfl rfl rfl rfl (ndB ((0, List.replicate 32 0, 0), 0, 0, false)).toList (by rw [Array.length_toList]; exact ndB_size _ (by simp))
    refine Eq.trans ?_ (this.trans ?_)
    · simp
    · rw [hx, aggC_agg]
      congr 1
      apply Array.ext'
      simp
  unfold execOp
  simp only [Sem.run_bind, run_build w 41 _ _ hbt, Result.andThen_ok]
  rfl
@[go_sem ↓] theorem build25 (f : Operand → Value) (y : Operand) (dst : Option Tmp) (ty' : TypeId) (pos : String) (after : Array Edge) (guard : Option (Nat × Bool)) (w : World) (hy : ndOk (f y)) :
    (execOp f ⟨dst, .buildSlice 25 1 #[(0, y)], ty', pos, after, guard⟩).run Try.prog w = .ok (.value (.slice (some ⟨w.heap.size, 0, none⟩) 1 1)) (w.alloc (.cells (aggC (f y)) 41)) := by
  obtain ⟨x, hx, hl⟩ := hy
  have := Rec.run_lit node25 w 1 [(f y, x)] (#[(0, y)].map fun (i, x) => (i, f x)) (by simp [Rec.parts]) rfl (by decide) (by decide) (by
    intro z hz; simp at hz; subst hz; exact ⟨hl, by rw [hx]; simp [nodeR, Value.cells]⟩)
  unfold execOp
  simp only [Sem.run_bind, this, Result.andThen_ok, hx, aggC_agg]
  simp [Rec.cells, nodeR]
theorem nodeIn_one (w : World) (x : Nd) (h : x.1.2.1.length = 32) : nodeR.In (w.alloc (.cells (ndB x) 41)) (some ⟨w.heap.size, 0, none⟩) [x] := by
  have := Rec.In.one (R := nodeR) w 41 x h
  simpa [nodeR] using this

set_option maxHeartbeats 4000000 in
set_option maxRecDepth 100000 in
theorem told_any (p : Option Addr) (c : Nat) (l : List Nd) (w : World) (hlen : l.length ≤ 1000) (hin : nodeR.In w p l) :
    Calls Try.prog 11 #[.slice p l.length c] w fun e w' => ∃ v, e = .returned v ∧ nodeR.row 41 w.heap.size l v w' ∧ Below w.heap.size w w' := by
  have HX := Lib.hid hin
  clear hin
  go_enter Try.func11, Try.ntmps11
  go_wp2_with fail
  go_loopg [3, 4] l.length (fun g v3 v4 wr => ∃ k : Nat, g + k = l.length ∧ v4 = .int .i64 k ∧ nodeR.row 41 w.heap.size (l.take k) v3 wr ∧ Below w.heap.size w wr)
  case atStart => exact ⟨0, by omega, rfl, by simpa using Rec.row.nil, Below.refl _ _⟩
  case round =>
    obtain ⟨k, hg, rfl, hrow, hbw⟩ := hrel
    have HG := Lib.hid hg
    have HROW := Lib.hid hrow
    have HB := Lib.hid hbw
    clear hg hrow hbw
    by_cases hk : k < l.length
    · have HKK := Lib.hid hk
      obtain ⟨b, off, rfl, hlt, h32, hat⟩ := node_at HX.out hk
      have HTK := Lib.hid (show l.take (k + 1) = l.take k ++ [l.getD k nd0] by
        rw [List.take_succ_eq_append_getElem hk, List.getD_eq_getElem?_getD, List.getElem?_eq_getElem hk]; rfl)
      have HLN := Lib.hid (show (l.take k).length + 1 ≤ 100000000 by rw [List.length_take]; omega)
      generalize l.getD k nd0 = x at *
      obtain ⟨⟨kt, kc, ki⟩, xp, xr, xd⟩ := x
      have H32 := Lib.hid (show kc.length = 32 from h32)
      have HAT := Lib.hid hat
      have i1 : (k : Int) < l.length := by omega
      have q0 : b < w.heap.size := hlt
      generalize u3 = v3 at *
      clear hat h32 hlt
      go_wp2_with fail
      refine wp_region_specs2 [[], [], [], [1, 2], [3], [4], [], [], [6, 7], [8], [9], [], [], [11, 12], [13], [14], [], [], [16, 17], [18], [19], [5, 10, 15, 20], [21], [0, 22], [23]] [some 11, some 12, some 13, some 14, some 15, some 16, some 17, some 18, some 19, some 20, some 21, some 22, some 23, some 24, some 25, some 26, some 27, some 28, some 29, some 30, some 31, some 32, some 33, some 34, some 3] [0, 1, 2, 3, 4, 5, 6, 7, 8, 9, 10, 11, 12, 13, 14, 15, 16, 17, 18, 19, 20, 21, 22, 23, 24]
        (fun w_ => Below w.heap.size w w_) (fun i w_ => i = 22 ∨ i = 23 → nodeR.row 41 w.heap.size (l.take k) v3 w_) (appR 23 w.heap.size v3)
        (fun ix_ => [eqv (v3), eqv (Value.slice (some ⟨b, off, none⟩) l.length c), eqv (.int .i64 (k : Int)), eqv (.pointer (some ⟨b, off + k * 37, none⟩)), eqv (.pointer (some ⟨b, off + k * 37, none⟩)), eqv (Value.agg (keyB kt kc ki)), eqv (Value.slice (some ⟨b, off, none⟩) l.length c), eqv (.int .i64 (k : Int)), eqv (.pointer (some ⟨b, off + k * 37, none⟩)), eqv (.pointer (some ⟨b, off + k * 37 + 34, none⟩)), eqv (.int .i64 xp), eqv (Value.slice (some ⟨b, off, none⟩) l.length c), eqv (.int .i64 (k : Int)), eqv (.pointer (some ⟨b, off + k * 37, none⟩)), eqv (.pointer (some ⟨b, off + k * 37 + 35, none⟩)), eqv (.int .i32 xr), eqv (Value.slice (some ⟨b, off, none⟩) l.length c), eqv (.int .i64 (k : Int)), eqv (.pointer (some ⟨b, off + k * 37, none⟩)), eqv (.pointer (some ⟨b, off + k * 37 + 36, none⟩)), eqv (.bool xd), eqv (Value.agg (ndB ((kt, kc, ki), xp, xr, xd))), oneR nodeR v3 ((kt, kc, ki), xp, xr, xd), nodeR.row 41 w.heap.size (l.take k ++ [((kt, kc, ki), xp, xr, xd)]), nodeR.row 41 w.heap.size (l.take k ++ [((kt, kc, ki), xp, xr, xd)])].getD ix_ anyv) (by kernel_rfl) (by kernel_rfl) (below_drewN HB.out 1) (fun i _ => HROW.out.below (below_drewN (Below.refl _ _) 1)) (fun j w_ w_' hg hr => appR_below (Nat.le_refl _) hg hr) ?_ ?_ ?_ ?_
      · intro i j w_ w_' hij hd hp hr hi
        by_cases hj : j = 23
        · subst hj; rcases hi with rfl | rfl
          · exact absurd (by decide) hd
          · exact absurd rfl hij
        · unfold appR at hr; rw [if_neg hj] at hr; exact (hp hi).below hr
      · intro i j v w_ w_' hij hd h hr
        have hrow_ : (j ≠ 23 → ∀ base xs, nodeR.row 41 base xs v w_ → nodeR.row 41 base xs v w_') := fun hj base xs h => by unfold appR at hr; rw [if_neg hj] at hr; exact h.below hr
        match i, hij, hd, h with
        | 0, _, _, h => exact h
        | 1, _, _, h => exact h
        | 2, _, _, h => exact h
        | 3, _, _, h => exact h
        | 4, _, _, h => exact h
        | 5, _, _, h => exact h
        | 6, _, _, h => exact h
        | 7, _, _, h => exact h
        | 8, _, _, h => exact h
        | 9, _, _, h => exact h
        | 10, _, _, h => exact h
        | 11, _, _, h => exact h
        | 12, _, _, h => exact h
        | 13, _, _, h => exact h
        | 14, _, _, h => exact h
        | 15, _, _, h => exact h
        | 16, _, _, h => exact h
        | 17, _, _, h => exact h
        | 18, _, _, h => exact h
        | 19, _, _, h => exact h
        | 20, _, _, h => exact h
        | 21, _, _, h => exact h
        | 22, _, _, h => exact oneR_st h hr
        | 23, hij, _, h => exact hrow_ (fun e => hij e.symm) _ _ h
        | 24, _, hd, h => exact hrow_ (fun e => hd (by rw [e]; decide)) _ _ h
        | i + 25, _, _, h => exact trivial
      · refine ⟨?_, ?_, ?_, ?_, ?_, ?_, ?_, ?_, ?_, ?_, ?_, ?_, ?_, ?_, ?_, ?_, ?_, ?_, ?_, ?_, ?_, ?_, ?_, ?_, ?_, trivial⟩
        · intro vs wq hG hP hd
          simp only [putL]
          clear hd hP 
          go_wp2
          exact ⟨rfl, rfl, appR_b (by decide) (Below.refl _ _), rfl⟩
        · intro vs wq hG hP hd
          simp only [putL]
          clear hd hP 
          go_wp2
          exact ⟨rfl, rfl, appR_b (by decide) (Below.refl _ _), rfl⟩
        · intro vs wq hG hP hd
          simp only [putL]
          clear hd hP 
          go_wp2
          exact ⟨rfl, rfl, appR_b (by decide) (Below.refl _ _), rfl⟩
        · intro vs wq hG hP hd
          have h1 := hd.get 1 rfl
          change vs 1 = _ at h1
          have h2 := hd.get 2 rfl
          change vs 2 = _ at h2
          simp only [putL, h1, h2]
          clear hd hP h1 h2
          go_wp2
          exact ⟨rfl, rfl, appR_b (by decide) (Below.refl _ _), rfl⟩
        · intro vs wq hG hP hd
          have h3 := hd.get 3 rfl
          change vs 3 = _ at h3
          simp only [putL, h3]
          clear hd hP h3
          go_wp2
          exact ⟨rfl, rfl, appR_b (by decide) (Below.refl _ _), rfl⟩
        · intro vs wq hG hP hd
          have h4 := hd.get 4 rfl
          change vs 4 = _ at h4
          have n1 := (HAT.out.below hG).kf
          have n2 := (HAT.out.below hG).ka
          simp only at n2
          simp only [putL, h4]
          clear hd hP h4
          go_wp2
          exact ⟨rfl, rfl, appR_b (by decide) (Below.refl _ _), rfl⟩
        · intro vs wq hG hP hd
          simp only [putL]
          clear hd hP 
          go_wp2
          exact ⟨rfl, rfl, appR_b (by decide) (Below.refl _ _), rfl⟩
        · intro vs wq hG hP hd
          simp only [putL]
          clear hd hP 
          go_wp2
          exact ⟨rfl, rfl, appR_b (by decide) (Below.refl _ _), rfl⟩
        · intro vs wq hG hP hd
          have h6 := hd.get 6 rfl
          change vs 6 = _ at h6
          have h7 := hd.get 7 rfl
          change vs 7 = _ at h7
          simp only [putL, h6, h7]
          clear hd hP h6 h7
          go_wp2
          exact ⟨rfl, rfl, appR_b (by decide) (Below.refl _ _), rfl⟩
        · intro vs wq hG hP hd
          have h8 := hd.get 8 rfl
          change vs 8 = _ at h8
          simp only [putL, h8]
          clear hd hP h8
          go_wp2
          exact ⟨rfl, rfl, appR_b (by decide) (Below.refl _ _), rfl⟩
        · intro vs wq hG hP hd
          have h9 := hd.get 9 rfl
          change vs 9 = _ at h9
          have n1 := (HAT.out.below hG).p
          simp only at n1
          simp only [putL, h9]
          clear hd hP h9
          go_wp2
          exact ⟨rfl, rfl, appR_b (by decide) (Below.refl _ _), rfl⟩
        · intro vs wq hG hP hd
          simp only [putL]
          clear hd hP 
          go_wp2
          exact ⟨rfl, rfl, appR_b (by decide) (Below.refl _ _), rfl⟩
        · intro vs wq hG hP hd
          simp only [putL]
          clear hd hP 
          go_wp2
          exact ⟨rfl, rfl, appR_b (by decide) (Below.refl _ _), rfl⟩
        · intro vs wq hG hP hd
          have h11 := hd.get 11 rfl
          change vs 11 = _ at h11
          have h12 := hd.get 12 rfl
          change vs 12 = _ at h12
          simp only [putL, h11, h12]
          clear hd hP h11 h12
          go_wp2
          exact ⟨rfl, rfl, appR_b (by decide) (Below.refl _ _), rfl⟩
        · intro vs wq hG hP hd
          have h13 := hd.get 13 rfl
          change vs 13 = _ at h13
          simp only [putL, h13]
          clear hd hP h13
          go_wp2
          exact ⟨rfl, rfl, appR_b (by decide) (Below.refl _ _), rfl⟩
        · intro vs wq hG hP hd
          have h14 := hd.get 14 rfl
          change vs 14 = _ at h14
          have n1 := (HAT.out.below hG).r
          simp only at n1
          simp only [putL, h14]
          clear hd hP h14
          go_wp2
          exact ⟨rfl, rfl, appR_b (by decide) (Below.refl _ _), rfl⟩
        · intro vs wq hG hP hd
          simp only [putL]
          clear hd hP 
          go_wp2
          exact ⟨rfl, rfl, appR_b (by decide) (Below.refl _ _), rfl⟩
        · intro vs wq hG hP hd
          simp only [putL]
          clear hd hP 
          go_wp2
          exact ⟨rfl, rfl, appR_b (by decide) (Below.refl _ _), rfl⟩
        · intro vs wq hG hP hd
          have h16 := hd.get 16 rfl
          change vs 16 = _ at h16
          have h17 := hd.get 17 rfl
          change vs 17 = _ at h17
          simp only [putL, h16, h17]
          clear hd hP h16 h17
          go_wp2
          exact ⟨rfl, rfl, appR_b (by decide) (Below.refl _ _), rfl⟩
        · intro vs wq hG hP hd
          have h18 := hd.get 18 rfl
          change vs 18 = _ at h18
          simp only [putL, h18]
          clear hd hP h18
          go_wp2
          exact ⟨rfl, rfl, appR_b (by decide) (Below.refl _ _), rfl⟩
        · intro vs wq hG hP hd
          have h19 := hd.get 19 rfl
          change vs 19 = _ at h19
          have n1 := (HAT.out.below hG).d
          simp only at n1
          simp only [putL, h19]
          clear hd hP h19
          go_wp2
          exact ⟨rfl, rfl, appR_b (by decide) (Below.refl _ _), rfl⟩
        · intro vs wq hG hP hd
          have h5 := hd.get 5 rfl
          change vs 5 = _ at h5
          have h10 := hd.get 10 rfl
          change vs 10 = _ at h10
          have h15 := hd.get 15 rfl
          change vs 15 = _ at h15
          have h20 := hd.get 20 rfl
          change vs 20 = _ at h20
          have n1 := H32.out
          simp only [putL, h5, h10, h15, h20]
          clear hd hP h5 h10 h15 h20
          go_wp2
          exact ⟨rfl, rfl, appR_b (by decide) (Below.refl _ _), rfl⟩
        · intro vs wq hG hP hd
          have h21 := hd.get 21 rfl
          change vs 21 = _ at h21
          have n1 := H32.out
          simp only [putL, h21]
          have hne := Lib.hid (ownR_ne (hP (.inl rfl)))
          clear hd hP h21
          go_wp2
          exact ⟨rfl, rfl, appR_b (by decide) ((Below.refl _ _).alloc (Nat.le_refl _) _), _, rfl, nodeIn_one wq ((kt, kc, ki), xp, xr, xd) H32.out, hne.out⟩
        · intro vs wq hG hP hd
          have h0 := hd.get 0 rfl
          change vs 0 = _ at h0
          obtain ⟨g4, h22, h4i, h4n⟩ := hd.get 22 rfl
          simp only [putL, h0, h22]
          have hOq := Lib.hid (hP (.inr rfl))
          have h4I := Lib.hid h4i
          have hGs := Lib.hid hG.size
          clear hd hP h4i h4n h0 h22
          go_wp2_with (at_builtin; refine Rec.wpList_app node25 rfl _ _ rfl w.heap.size v3 (l.take k) [((kt, kc, ki), xp, xr, xd)] (l.take k ++ [((kt, kc, ki), xp, xr, xd)]) rfl rfl hOq.out (some ⟨g4, 0, none⟩) 1 rfl h4I.out (fun e => by cases e) HLN.out hGs.out ?_)
          intro v' w' h1 h2 h3
          exact ⟨rfl, rfl, appR_a h2 h3, h1⟩
        · intro vs wq hG hP hd
          have h23 := hd.get 23 rfl
          simp only [putL]
          clear hd hP
          go_wp2
          exact ⟨rfl, rfl, appR_b (by decide) (Below.refl _ _), h23⟩
      · intro vs wq hG hd
        have h0 := hd.get 0 rfl
        change vs 0 = _ at h0
        have h1 := hd.get 1 rfl
        change vs 1 = _ at h1
        have h2 := hd.get 2 rfl
        change vs 2 = _ at h2
        have h3 := hd.get 3 rfl
        change vs 3 = _ at h3
        have h4 := hd.get 4 rfl
        change vs 4 = _ at h4
        have h5 := hd.get 5 rfl
        change vs 5 = _ at h5
        have h6 := hd.get 6 rfl
        change vs 6 = _ at h6
        have h7 := hd.get 7 rfl
        change vs 7 = _ at h7
        have h8 := hd.get 8 rfl
        change vs 8 = _ at h8
        have h9 := hd.get 9 rfl
        change vs 9 = _ at h9
        have h10 := hd.get 10 rfl
        change vs 10 = _ at h10
        have h11 := hd.get 11 rfl
        change vs 11 = _ at h11
        have h12 := hd.get 12 rfl
        change vs 12 = _ at h12
        have h13 := hd.get 13 rfl
        change vs 13 = _ at h13
        have h14 := hd.get 14 rfl
        change vs 14 = _ at h14
        have h15 := hd.get 15 rfl
        change vs 15 = _ at h15
        have h16 := hd.get 16 rfl
        change vs 16 = _ at h16
        have h17 := hd.get 17 rfl
        change vs 17 = _ at h17
        have h18 := hd.get 18 rfl
        change vs 18 = _ at h18
        have h19 := hd.get 19 rfl
        change vs 19 = _ at h19
        have h20 := hd.get 20 rfl
        change vs 20 = _ at h20
        have h21 := hd.get 21 rfl
        change vs 21 = _ at h21
        obtain ⟨g4, h22, _, _⟩ := hd.get 22 rfl
        have H23 := Lib.hid (hd.get 23 rfl)
        have H24 := Lib.hid (hd.get 24 rfl)
        have HGq := Lib.hid hG
        simp only [putL, List.getD_cons_zero, List.getD_cons_succ, Act.put, List.setIfInBounds_toArray, List.set_cons_zero, List.set_cons_succ, h0, h1, h2, h3, h4, h5, h6, h7, h8, h9, h10, h11, h12, h13, h14, h15, h16, h17, h18, h19, h20, h21, h22]
        clear hd hG h0 h1 h2 h3 h4 h5 h6 h7 h8 h9 h10 h11 h12 h13 h14 h15 h16 h17 h18 h19 h20 h21 h22
        generalize vs 23 = v23_ at *
        generalize vs 24 = v24_ at *
        clear q0
        go_wp2
        go_roundg (gk - 1)
        case measure => have := HG.out; have := HKK.out; omega
        case rel => exact ⟨k + 1, nat_step HG.out HKK.out, by go_num, by rw [HTK.out]; exact H24.out, HGq.out⟩
    · have HE := Lib.hid (show l.take k = l by rw [List.take_of_length_le (by have := HG.out; omega)])
      go_wp2
      go_ret
      exact ⟨_, rfl, by rw [← HE.out]; exact HROW.out, HB.out⟩
end Go.Proofs.Ytchbpfkjhilgiaa
