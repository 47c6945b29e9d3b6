/- Two acts in either order: the walk. -/
import Derived.Test.YtcgioboiebanpaaQe
import Derived.Test.YtcgioboiebanpaaPf
namespace Go.Proofs.Ytcgioboiebanpaa
open Go.RowKit Go.Maps Go.WideShapes Go.ChangeShapes Go.Deep
set_option linter.unusedVariables false

set_option maxRecDepth 100000 in
@[go_sem ↓] theorem load28 (f : Operand → Value) (x : Operand) (dst : Option Tmp) (ty' : TypeId) (pos : String) (after : Array Edge) (guard : Option (Nat × Bool)) (w : World)
    (hp : isPtr (f x) = true) (hf : fits w (addrOf (f x)) 71) :
    (execOp f ⟨dst, .load 28 x, ty', pos, after, guard⟩).run Try.prog w = .ok (.value (.agg (aggAt w (addrOf (f x)) 71))) w :=
  run_exec_load Try.underlying28 rfl (by kernel_rfl) f x dst ty' pos after guard w hp hf
theorem actL_len (x : AV) (hx : actRng x) : (actL x).toArray.size = 71 := by rw [List.size_toArray]; exact actR.len x ⟨hx.k32, hx.a32⟩
theorem addLast_len (O : List PV) (r : MR) : (addLast O r).length = O.length := by
  unfold addLast
  cases h : O.getLast? with
  | none => rfl
  | some p =>
    cases O with
    | nil => simp at h
    | cons a O => simp
theorem pgo_len9 : ∀ (rs : List MR) (st : List PV × Bool), (rs.foldl pstep st).1.length ≤ st.1.length + rs.length
  | [], st => by simp
  | r :: rs, st => by
    have ih := pgo_len9 rs (pstep st r)
    have h1 : (pstep st r).1.length ≤ st.1.length + 1 := by
      unfold pstep
      split
      · simp
      · split
        · simp only [addLast_len]; omega
        · simp
    rw [List.foldl_cons, List.length_cons]
    omega
theorem piece_ld {w : World} {a : Option Addr} {O : List PV} {k : Nat} (h : pieceR.In w a O) (hk : k < O.length) : ∃ b off, a = some ⟨b, off, none⟩ ∧ fits w ⟨b, off + k * 36, none⟩ 36 ∧ aggAt w ⟨b, off + k * 36, none⟩ 36 = pieceB O[k] ∧ O[k].1.2.1.length = 32 := by
  rcases h.2 with h0 | ⟨b, off, rfl, hlt, hc⟩
  · rw [h0] at hk; simp at hk
  · have h1 := hc k _ (List.getElem?_eq_getElem hk)
    exact ⟨b, off, rfl, h1.1, h1.2, h.1 _ (List.getElem_mem hk)⟩
/-- The phases of two acts on one document. -/
def PhT (d : Nat) (v : Value) (wd : World) (R : List MR) (w : World) : Prop := ∃ v', DocP w d v' R ∧ Step d v v' wd w ∧ wd.heap.size < w.heap.size
def PhG (d : Nat) (v : Value) (wd w : World) : Prop := ∃ v', Step d v v' wd w
theorem PhT.g {d : Nat} {v : Value} {wd w : World} {R : List MR} (h : PhT d v wd R w) : PhG d v wd w := by
  obtain ⟨v', _, h, _⟩ := h
  exact ⟨v', h⟩
theorem PhG.below {d : Nat} {v : Value} {wd w : World} {rs : List MR} (hd : DocP wd d v rs) (h : PhG d v wd w) : Below d wd w := by
  obtain ⟨v', h⟩ := h
  exact hd.step h (Nat.le_refl _)

set_option maxHeartbeats 8000000 in
set_option maxRecDepth 100000 in
theorem lawAgree_any (p : Option Addr) (c1 : Nat) (xs : List AV) (x y : AV) (w : World) (hp : actQ.In w p xs) (hx : actRng x) (hy : actRng y) : Calls Try.prog 3 #[.slice p xs.length c1, .agg (actL x).toArray, .agg (actL y).toArray] w fun e w' => e = .returned (.bool true) ∧ Below w.heap.size w w' := by
  have HP := Lib.hid hp
  have HRx := Lib.hid hx
  have HRy := Lib.hid hy
  obtain ⟨W, hW⟩ : ∃ W, W = (w.alloc (.cells (actL x).toArray 28)).alloc (.cells (actL y).toArray 28) := ⟨_, rfl⟩
  obtain ⟨b4, hb4⟩ : ∃ b, b = w.heap.size := ⟨_, rfl⟩
  obtain ⟨b5, hb5⟩ : ∃ b, b = w.heap.size + 1 := ⟨_, rfl⟩
  obtain ⟨q0, q1, q2⟩ := two_new hW.symm
  rw [← hb4] at q1
  rw [← hb5] at q2
  have HB0 := Lib.hid q0
  have HX0 := Lib.hid q1
  have HY0 := Lib.hid q2
  have HL0 := Lib.hid (show b4 < W.heap.size ∧ b5 < W.heap.size from ⟨(Array.getElem?_eq_some_iff.1 q1).1, (Array.getElem?_eq_some_iff.1 q2).1⟩)
  clear hp hx hy q0 q1 q2
  have hbx := (ActAt.of HRx.out.k32 HRx.out.a32 ⟨(blk_ld HX0.out (actL_len x HRx.out)).1, (blk_ld HX0.out (actL_len x HRx.out)).2⟩ : ActAt W b4 0 x)
  have hby := (ActAt.of HRy.out.k32 HRy.out.a32 ⟨(blk_ld HY0.out (actL_len y HRy.out)).1, (blk_ld HY0.out (actL_len y HRy.out)).2⟩ : ActAt W b5 0 y)
  have HBX := Lib.hid hbx
  have HBY := Lib.hid hby
  clear hbx hby
  go_enter Try.func3, Try.ntmps3
  go_upto_region 1 with fail
  rw [← hW, ← hb5, ← hb4]
  clear hW hb4 hb5
  go_wp2_with fail
  refine (light_any p c1 xs 20 W (by decide) (actQ.r (HP.out.below HB0.out))).mono ?_
  rintro e w1 ⟨rfl, hb⟩
  have HB1 := Lib.hid (HB0.out.trans (hb.mono HB0.out.size))
  have HX1 := Lib.hid ((hb.block b4 HL0.out.1).trans HX0.out)
  have HY1 := Lib.hid ((hb.block b5 HL0.out.2).trans HY0.out)
  have HL1 := Lib.hid (show b4 < w1.heap.size ∧ b5 < w1.heap.size from ⟨Nat.lt_of_lt_of_le HL0.out.1 hb.size, Nat.lt_of_lt_of_le HL0.out.2 hb.size⟩)
  have e1 := (HBX.out.below hb).text
  have e2 := (HBY.out.below hb).text
  simp only [Nat.zero_add] at e1 e2
  clear hb
  cases hlx : lightL xs 20 with
  | false =>
    go_wp2
    go_ret
    exact ⟨rfl, HB1.out⟩
  | true =>
  have HLX := Lib.hid (light_iff xs hlx)
  by_cases s1 : (40 : Int) < x.2.2.2.1.size
  · go_wp2
    go_ret
    exact ⟨rfl, HB1.out⟩
  by_cases s2 : (40 : Int) < y.2.2.2.1.size
  · go_wp2
    go_ret
    exact ⟨rfl, HB1.out⟩
  have HSx := Lib.hid (show x.2.2.2.1.size ≤ 1000 by omega)
  have HSy := Lib.hid (show y.2.2.2.1.size ≤ 1000 by omega)
  have HS40 := Lib.hid (show x.2.2.2.1.size ≤ 40 ∧ y.2.2.2.1.size ≤ 40 by omega)
  go_wp2_with fail
  refine (new_P w1).mono ?_
  rintro e w3 ⟨rfl, hd, hb⟩
  have HB3 := Lib.hid (HB1.out.trans (hb.mono HB1.out.size))
  have HX3 := Lib.hid ((hb.block b4 HL1.out.1).trans HX1.out)
  have HY3 := Lib.hid ((hb.block b5 HL1.out.2).trans HY1.out)
  obtain ⟨d1, hd1⟩ : ∃ d, d = w1.heap.size := ⟨_, rfl⟩
  rw [← hd1] at hd ⊢
  have HD1 := Lib.hid hd
  have HL41 := Lib.hid (show b4 < d1 by rw [hd1]; exact HL1.out.1)
  have HL51 := Lib.hid (show b5 < d1 by rw [hd1]; exact HL1.out.2)
  have HLw1 := Lib.hid (show w.heap.size ≤ d1 by rw [hd1]; exact HB1.out.size)
  clear hd hb hd1 s1 s2 e1 e2 hlx
  go_wp2_with fail
  refine (new_P w3).mono ?_
  rintro e w4 ⟨rfl, hd, hb⟩
  have HB4 := Lib.hid (HB3.out.trans (hb.mono HB3.out.size))
  have HX4 := Lib.hid ((hb.block b4 (by have := HD1.out.lt; have := HL41.out; omega)).trans HX3.out)
  have HY4 := Lib.hid ((hb.block b5 (by have := HD1.out.lt; have := HL51.out; omega)).trans HY3.out)
  have HD14 := Lib.hid (HD1.out.below hb)
  have HAP := Lib.hid (HD1.out.apart hd (Nat.le_refl _))
  obtain ⟨d2, hd2⟩ : ∃ d, d = w3.heap.size := ⟨_, rfl⟩
  rw [← hd2] at hd HAP ⊢
  have HD24 := Lib.hid hd
  have HL12 := Lib.hid (show d1 < d2 by rw [hd2]; exact HD1.out.lt)
  have HL42 := Lib.hid (Nat.lt_trans HL41.out HL12.out)
  have HL52 := Lib.hid (Nat.lt_trans HL51.out HL12.out)
  have HLw2 := Lib.hid (show w.heap.size ≤ d2 by have := HL12.out; have := HLw1.out; omega)
  clear hd hb hd2
  obtain ⟨R, hR⟩ : ∃ R, R = actsM [] xs := ⟨_, rfl⟩
  have HR := Lib.hid hR
  have HT := Lib.hid (show tot R ≤ 400 by rw [hR]; exact first_small HLX.out)
  have HIX := Lib.hid (show ∀ r ∈ R, idxOk r by rw [hR]; exact (actsM_facts xs [] (by simp) HLX.out.2).1)
  have HMX := Lib.hid (show mayF R by rw [hR]; exact acts_may xs [] (by simp) HP.out.1 (by intro e he; simp [flat] at he))
  clear hR
  go_wp2_with fail
  refine (acts_any d1 _ [] p c1 w.heap.size xs w4 HLw1.out (below_all HB4.out HP.out) HLX.out.2 (by have := HLX.out.1; simp only [tot, List.map_nil, List.sum_nil]; omega) HD14.out).mono ?_
  rintro e w5 ⟨rfl, v1, hd, hs⟩
  rw [← HR.out] at hd
  have HD15 := Lib.hid hd
  have HB5 := Lib.hid (HB4.out.trans (HD14.out.step hs HLw1.out))
  have HO := Lib.hid (HD24.out.other HD14.out HAP.out.symm hs)
  have HX5 := Lib.hid (((HD14.out.step hs (Nat.le_refl _)).block b4 HL41.out).trans HX4.out)
  have HY5 := Lib.hid (((HD14.out.step hs (Nat.le_refl _)).block b5 HL51.out).trans HY4.out)
  clear hd hs
  go_wp2_with fail
  refine (acts_any d2 _ [] p c1 w.heap.size xs w5 HLw2.out (below_all HB5.out HP.out) HLX.out.2 (by have := HLX.out.1; simp only [tot, List.map_nil, List.sum_nil]; omega) HO.out.1).mono ?_
  rintro e w6 ⟨rfl, v2, hd, hs⟩
  rw [← HR.out] at hd
  have HD26 := Lib.hid hd
  have HB6 := Lib.hid (HB5.out.trans (HO.out.1.step hs HLw2.out))
  have HO6 := Lib.hid (HD15.out.other HO.out.1 HO.out.2.symm hs)
  have HX := Lib.hid (((HO.out.1.step hs (Nat.le_refl _)).block b4 HL42.out).trans HX5.out)
  have HY := Lib.hid (((HO.out.1.step hs (Nat.le_refl _)).block b5 HL52.out).trans HY5.out)
  have HDd1 := Lib.hid HO6.out.1
  have HT1 := Lib.hid (show tot R ≤ 5000 by have := HT.out; omega)
  have HT2x := Lib.hid (show tot (doR R x) ≤ 5000 by have := (doR_facts HIX.out x).2; have := HT.out; have := HS40.out; omega)
  have HT2y := Lib.hid (show tot (doR R y) ≤ 5000 by have := (doR_facts HIX.out y).2; have := HT.out; have := HS40.out; omega)
  have HLb4 := HL41
  have HLb5 := HL51
  clear hd hs
  go_upto_region 6 with fail

  obtain ⟨wd, hwd⟩ : ∃ wd, wd = w6.drew := ⟨_, rfl⟩
  have hbd := (Below.refl w6.heap.size w6).drew
  rw [← hwd] at hbd
  have HWD := Lib.hid hwd
  have HDD := Lib.hid (HDd1.out.below hbd)
  have HXD := Lib.hid ((hbd.block b4 (Array.getElem?_eq_some_iff.1 HX.out).1).trans HX.out)
  have HYD := Lib.hid ((hbd.block b5 (Array.getElem?_eq_some_iff.1 HY.out).1).trans HY.out)
  have HBD := Lib.hid hbd
  clear hwd hbd
  refine wp_region_specs2 [[], [], [0, 1], [], [], [3, 4, 2], [2], [5]] [some 39, some 40, some 41, some 42, some 43, some 44, some 9, some 10] [0, 1, 2, 3, 4, 5, 6, 7]
    (fun w_ => PhG d1 v1 wd w_) (fun i w_ => (i = 2 → w_ = wd) ∧ (i = 5 → w_ = wd ∨ PhT d1 v1 wd (doR R x) w_)) (fun j w_ w_' => (j = 2 → PhT d1 v1 wd (doR R x) w_') ∧ (j = 5 → PhT d1 v1 wd (doR (doR R x) y) w_') ∧ (j ≠ 2 → j ≠ 5 → w_' = w_))
    (fun ix_ => [eqv (.pointer (some ⟨d1, 0, none⟩)), eqv (.agg (actL x).toArray), (fun u w_ => u = (.int .i64 (doE R x)) ∧ (PhT d1 v1 wd (doR R x) w_ ∨ PhT d1 v1 wd (doR (doR R x) y) w_)), eqv (.pointer (some ⟨d1, 0, none⟩)), eqv (.agg (actL y).toArray), (fun u w_ => u = (.int .i64 (doE (doR R x) y)) ∧ PhT d1 v1 wd (doR (doR R x) y) w_), eqv (.int .i64 (doE R x)), eqv (.int .i64 (doE (doR R x) y))].getD ix_ anyv) (by kernel_rfl) (by kernel_rfl) ?_ ?_ ?_ ?_ ?_ ?_ ?_
  · rw [← HWD.out]; exact ⟨v1, Step.of_below (Below.refl _ _)⟩
  · intro i; rw [← HWD.out]; exact ⟨fun _ => rfl, fun _ => .inl rfl⟩
  · intro j w_ w_' hg hr
    by_cases h2 : j = 2
    · exact (hr.1 h2).g
    by_cases h5 : j = 5
    · exact (hr.2.1 h5).g
    rw [hr.2.2 h2 h5]; exact hg
  · intro i j w_ w_' hij hd hp hr
    by_cases h2 : j = 2
    · subst h2
      exact ⟨fun h => absurd h hij, fun h => .inr (hr.1 rfl)⟩
    by_cases h5 : j = 5
    · subst h5
      exact ⟨fun h => by subst h; exact absurd (by decide) hd, fun h => absurd h hij⟩
    rw [hr.2.2 h2 h5]; exact hp
  · intro i j u w_ w_' hij hd h hr
    by_cases h2 : j = 2
    · subst h2
      match i, hij, hd, h with
      | 0, _, _, h => exact h
      | 1, _, _, h => exact h
      | 2, hij, _, _ => exact absurd rfl hij
      | 3, _, _, h => exact h
      | 4, _, _, h => exact h
      | 5, _, hd, _ => exact absurd (by decide) hd
      | 6, _, _, h => exact h
      | 7, _, _, h => exact h
      | i + 8, _, _, h => exact trivial
    by_cases h5 : j = 5
    · subst h5
      match i, hij, hd, h with
      | 0, _, _, h => exact h
      | 1, _, _, h => exact h
      | 2, _, _, h => exact ⟨h.1, .inr (hr.2.1 rfl)⟩
      | 3, _, _, h => exact h
      | 4, _, _, h => exact h
      | 5, hij, _, _ => exact absurd rfl hij
      | 6, _, _, h => exact h
      | 7, _, _, h => exact h
      | i + 8, _, _, h => exact trivial
    rw [hr.2.2 h2 h5]; exact h
  · refine ⟨?_, ?_, ?_, ?_, ?_, ?_, ?_, ?_, trivial⟩
    · intro vs wx hG hP hd
      simp only [putL]
      clear hd hP hG
      go_wp2
      exact ⟨rfl, rfl, ⟨(fun h => absurd h (by decide)), (fun h => absurd h (by decide)), (fun _ _ => rfl)⟩, rfl⟩
    · intro vs wx hG hP hd
      have hxx := ((hG.below HDD.out).block b4 HLb4.out).trans HXD.out
      have f1 := (blk_ld hxx (actL_len x HRx.out)).1
      have f2 := (blk_ld hxx (actL_len x HRx.out)).2
      simp only [putL]
      clear hd hP hG hxx
      go_wp2
      exact ⟨rfl, rfl, ⟨(fun h => absurd h (by decide)), (fun h => absurd h (by decide)), (fun _ _ => rfl)⟩, rfl⟩
    · intro vs wx hG hP hd
      have h0 := hd.get 0 rfl
      change vs 0 = _ at h0
      have h1 := hd.get 1 rfl
      change vs 1 = _ at h1
      have hwx : wx = wd := hP.1 rfl
      obtain ⟨v1_, hv1⟩ : ∃ u, u = v1 := ⟨_, rfl⟩
      have HDX := Lib.hid (show DocP wx d1 v1_ R by rw [hwx, hv1]; exact HDD.out)
      have HSX := Lib.hid (show Step d1 v1 v1_ wd wx by rw [hwx, hv1]; exact Step.of_below (Below.refl _ _))
      clear hwx hv1
      simp only [putL, h0, h1]
      clear hd hP hG h0 h1
      go_wp2_with fail
      refine (do_any d1 v1_ R x wx HRx.out HSx.out HT1.out HDX.out).mono ?_
      rintro e w9 ⟨rfl, ⟨v2_, g1, g2⟩, g3⟩
      have HG1 := Lib.hid g1
      have HG2 := Lib.hid (HSX.out.trans g2)
      have HG3 := Lib.hid (Nat.lt_of_le_of_lt HSX.out.size g3)
      clear g1 g2 g3
      go_wp2
      exact ⟨rfl, rfl, ⟨(fun _ => ⟨v2_, HG1.out, HG2.out, HG3.out⟩), (fun h => absurd h (by decide)), (fun h => absurd rfl h)⟩, rfl, .inl ⟨v2_, HG1.out, HG2.out, HG3.out⟩⟩
    · intro vs wx hG hP hd
      simp only [putL]
      clear hd hP hG
      go_wp2
      exact ⟨rfl, rfl, ⟨(fun h => absurd h (by decide)), (fun h => absurd h (by decide)), (fun _ _ => rfl)⟩, rfl⟩
    · intro vs wx hG hP hd
      have hxx := ((hG.below HDD.out).block b5 HLb5.out).trans HYD.out
      have f1 := (blk_ld hxx (actL_len y HRy.out)).1
      have f2 := (blk_ld hxx (actL_len y HRy.out)).2
      simp only [putL]
      clear hd hP hG hxx
      go_wp2
      exact ⟨rfl, rfl, ⟨(fun h => absurd h (by decide)), (fun h => absurd h (by decide)), (fun _ _ => rfl)⟩, rfl⟩
    · intro vs wx hG hP hd
      have h3 := hd.get 3 rfl
      change vs 3 = _ at h3
      have h4 := hd.get 4 rfl
      change vs 4 = _ at h4
      have h2 := hd.get 2 rfl
      have hph : PhT d1 v1 wd (doR R x) wx := by
        rcases hP.2 rfl with h | h
        · rcases h2.2 with g | g
          · exact g
          · obtain ⟨_, _, _, g⟩ := g
            rw [h] at g
            exact absurd g (Nat.lt_irrefl _)
        · exact h
      have h2 := h2.1
      obtain ⟨v1_, hq1, hq2, hq3⟩ := hph
      have HDX := Lib.hid hq1
      have HSX := Lib.hid hq2
      clear hq1 hq2 hq3
      simp only [putL, h3, h4, h2]
      clear hd hP hG h3 h4 h2
      go_wp2_with fail
      refine (do_any d1 v1_ (doR R x) y wx HRy.out HSy.out HT2x.out HDX.out).mono ?_
      rintro e w9 ⟨rfl, ⟨v2_, g1, g2⟩, g3⟩
      have HG1 := Lib.hid g1
      have HG2 := Lib.hid (HSX.out.trans g2)
      have HG3 := Lib.hid (Nat.lt_of_le_of_lt HSX.out.size g3)
      clear g1 g2 g3
      go_wp2
      exact ⟨rfl, rfl, ⟨(fun h => absurd h (by decide)), (fun _ => ⟨v2_, HG1.out, HG2.out, HG3.out⟩), (fun _ h => absurd rfl h)⟩, rfl, ⟨v2_, HG1.out, HG2.out, HG3.out⟩⟩
    · intro vs wx hG hP hd
      have h2 := (hd.get 2 rfl).1
      simp only [putL, h2]
      clear hd hP hG h2
      go_wp2
      exact ⟨rfl, rfl, ⟨(fun h => absurd h (by decide)), (fun h => absurd h (by decide)), (fun _ _ => rfl)⟩, rfl⟩
    · intro vs wx hG hP hd
      have h5 := (hd.get 5 rfl).1
      simp only [putL, h5]
      clear hd hP hG h5
      go_wp2
      exact ⟨rfl, rfl, ⟨(fun h => absurd h (by decide)), (fun h => absurd h (by decide)), (fun _ _ => rfl)⟩, rfl⟩
  intro vs wa hG hd
  have h0 := hd.get 0 rfl
  change vs 0 = _ at h0
  have h1 := hd.get 1 rfl
  change vs 1 = _ at h1
  have h3 := hd.get 3 rfl
  change vs 3 = _ at h3
  have h4 := hd.get 4 rfl
  change vs 4 = _ at h4
  have h6 := hd.get 6 rfl
  change vs 6 = _ at h6
  have h7 := hd.get 7 rfl
  change vs 7 = _ at h7
  have h2 := (hd.get 2 rfl).1
  have h5 := (hd.get 5 rfl).1
  obtain ⟨vd1, hz1, hz2, hz3⟩ := (hd.get 5 rfl).2
  simp only [putL, List.getD_cons_zero, List.getD_cons_succ, Act.put, List.setIfInBounds_toArray, List.set_cons_zero, List.set_cons_succ, h0, h1, h2, h3, h4, h5, h6, h7]
  have HZD := Lib.hid hz1
  have HZS := Lib.hid ((Step.of_below (d := d1) (v := v1) HBD.out).trans hz2)
  clear hd hG hz1 hz2 hz3 h0 h1 h2 h3 h4 h5 h6 h7 HWD HDD HXD HYD HBD
  have HO7 := Lib.hid (HD26.out.other HO6.out.1 HO6.out.2.symm HZS.out)
  have HD17 := HZD
  have HB7 := Lib.hid (HB6.out.trans (HO6.out.1.step HZS.out HLw1.out))
  have HXo := Lib.hid (((HO6.out.1.step HZS.out (Nat.le_refl _)).block b4 HL41.out).trans HX.out)
  have HYo := Lib.hid (((HO6.out.1.step HZS.out (Nat.le_refl _)).block b5 HL51.out).trans HY.out)
  clear HX HY HLb4 HLb5 HZD HZS HX5 HY5 HX4 HY4 HX3 HY3 HX1 HY1 HX0 HY0 HDd1
  have HX := HYo
  have HY := HXo
  have HDd2 := Lib.hid HO7.out.1
  have HLb4 := HL42
  have HLb5 := HL52
  go_upto_region 7 with fail
  obtain ⟨wd, hwd⟩ : ∃ wd, wd = wa.drew := ⟨_, rfl⟩
  have hbd := (Below.refl wa.heap.size wa).drew
  rw [← hwd] at hbd
  have HWD := Lib.hid hwd
  have HDD := Lib.hid (HDd2.out.below hbd)
  have HXD := Lib.hid ((hbd.block b5 (Array.getElem?_eq_some_iff.1 HX.out).1).trans HX.out)
  have HYD := Lib.hid ((hbd.block b4 (Array.getElem?_eq_some_iff.1 HY.out).1).trans HY.out)
  have HBD := Lib.hid hbd
  clear hwd hbd
  refine wp_region_specs2 [[], [], [0, 1], [], [], [3, 4, 2], [2], [5]] [some 45, some 46, some 47, some 48, some 49, some 50, some 11, some 12] [0, 1, 2, 3, 4, 5, 6, 7]
    (fun w_ => PhG d2 v2 wd w_) (fun i w_ => (i = 2 → w_ = wd) ∧ (i = 5 → w_ = wd ∨ PhT d2 v2 wd (doR R y) w_)) (fun j w_ w_' => (j = 2 → PhT d2 v2 wd (doR R y) w_') ∧ (j = 5 → PhT d2 v2 wd (doR (doR R y) x) w_') ∧ (j ≠ 2 → j ≠ 5 → w_' = w_))
    (fun ix_ => [eqv (.pointer (some ⟨d2, 0, none⟩)), eqv (.agg (actL y).toArray), (fun u w_ => u = (.int .i64 (doE R y)) ∧ (PhT d2 v2 wd (doR R y) w_ ∨ PhT d2 v2 wd (doR (doR R y) x) w_)), eqv (.pointer (some ⟨d2, 0, none⟩)), eqv (.agg (actL x).toArray), (fun u w_ => u = (.int .i64 (doE (doR R y) x)) ∧ PhT d2 v2 wd (doR (doR R y) x) w_), eqv (.int .i64 (doE R y)), eqv (.int .i64 (doE (doR R y) x))].getD ix_ anyv) (by kernel_rfl) (by kernel_rfl) ?_ ?_ ?_ ?_ ?_ ?_ ?_
  · rw [← HWD.out]; exact ⟨v2, Step.of_below (Below.refl _ _)⟩
  · intro i; rw [← HWD.out]; exact ⟨fun _ => rfl, fun _ => .inl rfl⟩
  · intro j w_ w_' hg hr
    by_cases h2 : j = 2
    · exact (hr.1 h2).g
    by_cases h5 : j = 5
    · exact (hr.2.1 h5).g
    rw [hr.2.2 h2 h5]; exact hg
  · intro i j w_ w_' hij hd hp hr
    by_cases h2 : j = 2
    · subst h2
      exact ⟨fun h => absurd h hij, fun h => .inr (hr.1 rfl)⟩
    by_cases h5 : j = 5
    · subst h5
      exact ⟨fun h => by subst h; exact absurd (by decide) hd, fun h => absurd h hij⟩
    rw [hr.2.2 h2 h5]; exact hp
  · intro i j u w_ w_' hij hd h hr
    by_cases h2 : j = 2
    · subst h2
      match i, hij, hd, h with
      | 0, _, _, h => exact h
      | 1, _, _, h => exact h
      | 2, hij, _, _ => exact absurd rfl hij
      | 3, _, _, h => exact h
      | 4, _, _, h => exact h
      | 5, _, hd, _ => exact absurd (by decide) hd
      | 6, _, _, h => exact h
      | 7, _, _, h => exact h
      | i + 8, _, _, h => exact trivial
    by_cases h5 : j = 5
    · subst h5
      match i, hij, hd, h with
      | 0, _, _, h => exact h
      | 1, _, _, h => exact h
      | 2, _, _, h => exact ⟨h.1, .inr (hr.2.1 rfl)⟩
      | 3, _, _, h => exact h
      | 4, _, _, h => exact h
      | 5, hij, _, _ => exact absurd rfl hij
      | 6, _, _, h => exact h
      | 7, _, _, h => exact h
      | i + 8, _, _, h => exact trivial
    rw [hr.2.2 h2 h5]; exact h
  · refine ⟨?_, ?_, ?_, ?_, ?_, ?_, ?_, ?_, trivial⟩
    · intro vs wx hG hP hd
      simp only [putL]
      clear hd hP hG
      go_wp2
      exact ⟨rfl, rfl, ⟨(fun h => absurd h (by decide)), (fun h => absurd h (by decide)), (fun _ _ => rfl)⟩, rfl⟩
    · intro vs wx hG hP hd
      have hxx := ((hG.below HDD.out).block b5 HLb5.out).trans HXD.out
      have f1 := (blk_ld hxx (actL_len y HRy.out)).1
      have f2 := (blk_ld hxx (actL_len y HRy.out)).2
      simp only [putL]
      clear hd hP hG hxx
      go_wp2
      exact ⟨rfl, rfl, ⟨(fun h => absurd h (by decide)), (fun h => absurd h (by decide)), (fun _ _ => rfl)⟩, rfl⟩
    · intro vs wx hG hP hd
      have h0 := hd.get 0 rfl
      change vs 0 = _ at h0
      have h1 := hd.get 1 rfl
      change vs 1 = _ at h1
      have hwx : wx = wd := hP.1 rfl
      obtain ⟨v1_, hv1⟩ : ∃ u, u = v2 := ⟨_, rfl⟩
      have HDX := Lib.hid (show DocP wx d2 v1_ R by rw [hwx, hv1]; exact HDD.out)
      have HSX := Lib.hid (show Step d2 v2 v1_ wd wx by rw [hwx, hv1]; exact Step.of_below (Below.refl _ _))
      clear hwx hv1
      simp only [putL, h0, h1]
      clear hd hP hG h0 h1
      go_wp2_with fail
      refine (do_any d2 v1_ R y wx HRy.out HSy.out HT1.out HDX.out).mono ?_
      rintro e w9 ⟨rfl, ⟨v2_, g1, g2⟩, g3⟩
      have HG1 := Lib.hid g1
      have HG2 := Lib.hid (HSX.out.trans g2)
      have HG3 := Lib.hid (Nat.lt_of_le_of_lt HSX.out.size g3)
      clear g1 g2 g3
      go_wp2
      exact ⟨rfl, rfl, ⟨(fun _ => ⟨v2_, HG1.out, HG2.out, HG3.out⟩), (fun h => absurd h (by decide)), (fun h => absurd rfl h)⟩, rfl, .inl ⟨v2_, HG1.out, HG2.out, HG3.out⟩⟩
    · intro vs wx hG hP hd
      simp only [putL]
      clear hd hP hG
      go_wp2
      exact ⟨rfl, rfl, ⟨(fun h => absurd h (by decide)), (fun h => absurd h (by decide)), (fun _ _ => rfl)⟩, rfl⟩
    · intro vs wx hG hP hd
      have hxx := ((hG.below HDD.out).block b4 HLb4.out).trans HYD.out
      have f1 := (blk_ld hxx (actL_len x HRx.out)).1
      have f2 := (blk_ld hxx (actL_len x HRx.out)).2
      simp only [putL]
      clear hd hP hG hxx
      go_wp2
      exact ⟨rfl, rfl, ⟨(fun h => absurd h (by decide)), (fun h => absurd h (by decide)), (fun _ _ => rfl)⟩, rfl⟩
    · intro vs wx hG hP hd
      have h3 := hd.get 3 rfl
      change vs 3 = _ at h3
      have h4 := hd.get 4 rfl
      change vs 4 = _ at h4
      have h2 := hd.get 2 rfl
      have hph : PhT d2 v2 wd (doR R y) wx := by
        rcases hP.2 rfl with h | h
        · rcases h2.2 with g | g
          · exact g
          · obtain ⟨_, _, _, g⟩ := g
            rw [h] at g
            exact absurd g (Nat.lt_irrefl _)
        · exact h
      have h2 := h2.1
      obtain ⟨v1_, hq1, hq2, hq3⟩ := hph
      have HDX := Lib.hid hq1
      have HSX := Lib.hid hq2
      clear hq1 hq2 hq3
      simp only [putL, h3, h4, h2]
      clear hd hP hG h3 h4 h2
      go_wp2_with fail
      refine (do_any d2 v1_ (doR R y) x wx HRx.out HSx.out HT2y.out HDX.out).mono ?_
      rintro e w9 ⟨rfl, ⟨v2_, g1, g2⟩, g3⟩
      have HG1 := Lib.hid g1
      have HG2 := Lib.hid (HSX.out.trans g2)
      have HG3 := Lib.hid (Nat.lt_of_le_of_lt HSX.out.size g3)
      clear g1 g2 g3
      go_wp2
      exact ⟨rfl, rfl, ⟨(fun h => absurd h (by decide)), (fun _ => ⟨v2_, HG1.out, HG2.out, HG3.out⟩), (fun _ h => absurd rfl h)⟩, rfl, ⟨v2_, HG1.out, HG2.out, HG3.out⟩⟩
    · intro vs wx hG hP hd
      have h2 := (hd.get 2 rfl).1
      simp only [putL, h2]
      clear hd hP hG h2
      go_wp2
      exact ⟨rfl, rfl, ⟨(fun h => absurd h (by decide)), (fun h => absurd h (by decide)), (fun _ _ => rfl)⟩, rfl⟩
    · intro vs wx hG hP hd
      have h5 := (hd.get 5 rfl).1
      simp only [putL, h5]
      clear hd hP hG h5
      go_wp2
      exact ⟨rfl, rfl, ⟨(fun h => absurd h (by decide)), (fun h => absurd h (by decide)), (fun _ _ => rfl)⟩, rfl⟩
  intro vs wy hG hd
  have h0 := hd.get 0 rfl
  change vs 0 = _ at h0
  have h1 := hd.get 1 rfl
  change vs 1 = _ at h1
  have h3 := hd.get 3 rfl
  change vs 3 = _ at h3
  have h4 := hd.get 4 rfl
  change vs 4 = _ at h4
  have h6 := hd.get 6 rfl
  change vs 6 = _ at h6
  have h7 := hd.get 7 rfl
  change vs 7 = _ at h7
  have h2 := (hd.get 2 rfl).1
  have h5 := (hd.get 5 rfl).1
  obtain ⟨vd2, hz1, hz2, hz3⟩ := (hd.get 5 rfl).2
  simp only [putL, List.getD_cons_zero, List.getD_cons_succ, Act.put, List.setIfInBounds_toArray, List.set_cons_zero, List.set_cons_succ, h0, h1, h2, h3, h4, h5, h6, h7]
  have HZD := Lib.hid hz1
  have HZS := Lib.hid ((Step.of_below (d := d2) (v := v2) HBD.out).trans hz2)
  clear hd hG hz1 hz2 hz3 h0 h1 h2 h3 h4 h5 h6 h7 HWD HDD HXD HYD HBD
  have HO8 := Lib.hid (HD17.out.other HO7.out.1 HO7.out.2.symm HZS.out)
  have HB8 := Lib.hid (HB7.out.trans (HO7.out.1.step HZS.out HLw2.out))
  have HD18 := Lib.hid HO8.out.1
  have HD28 := HZD
  clear HX HY HLb4 HLb5 HZD HZS HDd2 HD17 HO7 HO6
  by_cases a1 : doE R x = 0
  case neg =>
    go_wp2_with fail
    refine (awake_any wy).mono ?_
    rintro e w9 ⟨rfl, hb⟩
    have HB9 := Lib.hid (HB8.out.trans (hb.mono HB8.out.size))
    clear hb
    go_wp2
    go_ret
    exact ⟨rfl, HB9.out⟩
  by_cases a2 : doE (doR R x) y = 0
  case neg =>
    go_wp2_with fail
    refine (awake_any wy).mono ?_
    rintro e w9 ⟨rfl, hb⟩
    have HB9 := Lib.hid (HB8.out.trans (hb.mono HB8.out.size))
    clear hb
    go_wp2
    go_ret
    exact ⟨rfl, HB9.out⟩
  by_cases a3 : doE R y = 0
  case neg =>
    go_wp2_with fail
    refine (awake_any wy).mono ?_
    rintro e w9 ⟨rfl, hb⟩
    have HB9 := Lib.hid (HB8.out.trans (hb.mono HB8.out.size))
    clear hb
    go_wp2
    go_ret
    exact ⟨rfl, HB9.out⟩
  by_cases a4 : doE (doR R y) x = 0
  case neg =>
    go_wp2_with fail
    refine (awake_any wy).mono ?_
    rintro e w9 ⟨rfl, hb⟩
    have HB9 := Lib.hid (HB8.out.trans (hb.mono HB8.out.size))
    clear hb
    go_wp2
    go_ret
    exact ⟨rfl, HB9.out⟩
  have HAG := Lib.hid (agree HIX.out HMX.out HRx.out HRy.out a1 a2 a3 a4)
  obtain ⟨R12, hR12⟩ : ∃ R12, R12 = doR (doR R x) y := ⟨_, rfl⟩
  obtain ⟨R21, hR21⟩ : ∃ R21, R21 = doR (doR R y) x := ⟨_, rfl⟩
  have hag := HAG.out
  have h12 := HD18.out
  have h21 := HD28.out
  rw [← hR12, ← hR21] at hag
  rw [← hR12] at h12
  rw [← hR21] at h21
  have HT12 := Lib.hid (show tot R12 ≤ 5000 by
    rw [hR12]
    have q1 := (doR_facts HIX.out x)
    have q2 := (doR_facts q1.1 y).2
    have := q1.2
    have := HT.out
    have := HS40.out
    omega)
  have HT21 := Lib.hid (show tot R21 ≤ 5000 by rw [← hag.2.2]; exact HT12.out)
  have HPE := Lib.hid hag.1
  have HTE := Lib.hid hag.2.1
  have HNE := Lib.hid hag.2.2
  have HDA := Lib.hid h12
  have HDB := Lib.hid h21
  have HLN := Lib.hid (show (piecesM R12).length ≤ 1000000 by
    have q1 := pgo_len9 R12 ([], true)
    have q2 := tot_len h12.idx
    have := HT12.out
    simp only [List.length_nil] at q1
    show (R12.foldl pstep ([], true)).1.length ≤ 1000000
    omega)
  clear hag h12 h21 hR12 hR21 HAG HD18 HD28
  go_wp2_with fail
  refine (pieces_P d1 vd1 R12 wy HT12.out HDA.out).mono ?_
  rintro e w9 ⟨p1, rfl, hr, hb⟩
  have HB9 := Lib.hid (HB8.out.trans (hb.mono HB8.out.size))
  have HDA9 := Lib.hid (HDA.out.below hb)
  have HDB9 := Lib.hid (HDB.out.below hb)
  obtain ⟨pa, ca, rfl, _, _, hi1, _⟩ := hr.sl
  have HI9 := Lib.hid hi1
  clear hr hb hi1
  go_wp2_with fail
  refine (pieces_P d2 vd2 R21 w9 HT21.out HDB9.out).mono ?_
  rintro e w10 ⟨p2, rfl, hr, hb⟩
  have HB10 := Lib.hid (HB9.out.trans (hb.mono HB9.out.size))
  have HDA10 := Lib.hid (HDA9.out.below hb)
  have HDB10 := Lib.hid (HDB9.out.below hb)
  have HI10 := Lib.hid (HI9.out.below hb)
  rw [← HPE.out] at hr
  obtain ⟨pb, cb, rfl, _, _, hi2, _⟩ := hr.sl
  have HJ10 := Lib.hid hi2
  clear hr hb hi2
  obtain ⟨O, hO⟩ : ∃ O, O = piecesM R12 := ⟨_, rfl⟩
  rw [← hO] at HI10 HJ10 HLN ⊢
  clear hO HI9
  go_wp2_with fail
  refine (text_P d1 vd1 R12 w10 HT12.out HDA10.out).mono ?_
  rintro e w11 ⟨rfl, hb⟩
  have HB11 := Lib.hid (HB10.out.trans (hb.mono HB10.out.size))
  have HDA11 := Lib.hid (HDA10.out.below hb)
  have HDB11 := Lib.hid (HDB10.out.below hb)
  have HI11 := Lib.hid (HI10.out.below hb)
  have HJ11 := Lib.hid (HJ10.out.below hb)
  clear hb
  go_wp2_with fail
  refine (text_P d2 vd2 R21 w11 HT21.out HDB11.out).mono ?_
  rintro e w12 ⟨rfl, hb⟩
  rw [← HTE.out]
  have HB12 := Lib.hid (HB11.out.trans (hb.mono HB11.out.size))
  have HDA12 := Lib.hid (HDA11.out.below hb)
  have HDB12 := Lib.hid (HDB11.out.below hb)
  have HI12 := Lib.hid (HI11.out.below hb)
  have HJ12 := Lib.hid (HJ11.out.below hb)
  clear hb
  go_wp2_with fail
  refine (size_P d1 vd1 R12 w12 HDA12.out).mono ?_
  rintro e w13 ⟨rfl, hb⟩
  have HB13 := Lib.hid (HB12.out.trans (hb.mono HB12.out.size))
  have HDB13 := Lib.hid (HDB12.out.below hb)
  have HI13 := Lib.hid (HI12.out.below hb)
  have HJ13 := Lib.hid (HJ12.out.below hb)
  clear hb
  go_wp2_with fail
  refine (size_P d2 vd2 R21 w13 HDB13.out).mono ?_
  rintro e w14 ⟨rfl, hb⟩
  rw [← HNE.out]
  have HB14 := Lib.hid (HB13.out.trans (hb.mono HB13.out.size))
  have HI14 := Lib.hid (HI13.out.below hb)
  have HJ14 := Lib.hid (HJ13.out.below hb)
  clear hb
  have hx6 := HLN.out
  go_wp2_with fail
  go_loopg [15] O.length (fun g u wr => ∃ k : Nat, g + k = O.length ∧ u = .int .i64 k ∧ Below w14.heap.size w14 wr)
  case atStart => exact ⟨0, by omega, rfl, Below.refl _ _⟩
  case round =>
    obtain ⟨k, hg, rfl, hwr⟩ := hrel
    have HG := Lib.hid hg
    have HWR := Lib.hid hwr
    clear hg hwr
    by_cases hk : k < O.length
    · have HK := Lib.hid hk
      have i1 : (k : Int) < O.length := by omega
      go_upto_region 16 with fail
      have hbd := (Below.refl w14.heap.size wr).drew
      have HWD := Lib.hid (HWR.out.trans hbd)
      obtain ⟨b1, o1, rfl, f1, f2, HK32⟩ := piece_ld (HI14.out.below HWD.out) hk
      obtain ⟨b2, o2, rfl, f3, f4, _⟩ := piece_ld (HJ14.out.below HWD.out) hk
      have H32 := Lib.hid HK32
      generalize O[k] = pk at *
      clear hbd HK32
      refine wp_region_still_tail 8 (by kernel_rfl) (by kernel_rfl) ?_
      change wpStill _ _ wr.drew (fun a' => wpList _ _ _ _ a' wr.drew) _ _
      generalize wr.drew = w2 at *
      simp only [List.take_succ_cons, List.take_zero, List.drop_succ_cons, List.drop_zero]
      repeat still_step
      refine wpStill_nil ?_
      have h32 := H32.out
      clear f1 f2 f3 f4
      go_wp2
      go_roundg (gk - 1)
      case measure => have := HG.out; have := HK.out; omega
      case rel => exact ⟨k + 1, by have := HG.out; have := HK.out; omega, by go_num, HWD.out⟩
    · have i1 : ¬ (k : Int) < O.length := by omega
      go_wp2_with fail
      refine (awake_any wr).mono ?_
      rintro e w15 ⟨rfl, hb⟩
      have HB15 := Lib.hid (HB14.out.trans ((HWR.out.mono HB14.out.size).trans (hb.mono (Nat.le_trans HB14.out.size HWR.out.size))))
      clear hb
      go_wp2
      go_ret
      exact ⟨rfl, HB15.out⟩
set_option maxRecDepth 100000 in
theorem blockAgree_walk {H : Type} {enc : TypeId × Value → H} {W : World} {b0 : Nat} {v1 v2 v3 : Value} {d1 d2 d3 : DataW H} {p1 p2 p3 : List MemPlace}
    (k1 : Value.okWide Try.prog W .any b0 22 v1) (h1 : DataW.Trod enc Try.prog W 0 (fun _ => true) true 22 v1 d1 p1) (k2 : Value.okWide Try.prog W .any b0 28 v2) (h2 : DataW.Trod enc Try.prog W 0 (fun _ => true) true 28 v2 d2 p2)
    (k3 : Value.okWide Try.prog W .any b0 28 v3) (h3 : DataW.Trod enc Try.prog W 0 (fun _ => true) true 28 v3 d3 p3) :
    Calls Try.prog 3 #[v1, v2, v3] W fun e w' => e = .returned (.bool true) ∧ Below W.heap.size W w' := by
  obtain ⟨xs, p, c, rfl, _, _, hi, _⟩ := reads_acts h1 (okWide_slice Try.underlying22 k1)
  obtain ⟨x, hx, rfl⟩ := reads_act (ok_agg Try.underlying28 k2) h2
  obtain ⟨y, hy, rfl⟩ := reads_act (ok_agg Try.underlying28 k3) h3
  exact lawAgree_any p c xs x y W hi hx hy
end Go.Proofs.Ytcgioboiebanpaa
