/- The law TreeNext: walk. -/
import Derived.Test.YtchbpfkjhilgiaaNz
namespace Go.Proofs.Ytchbpfkjhilgiaa
open Go.RowKit Go.WideShapes Go.ChangeShapes Go.ChangeMaps Go.Deep
set_option linter.unusedVariables false

/-- The last of the elements, where its key is behind all others, stands in the order right behind its parent, or first of all. -/
theorem next_place (l : List Nd) (x : Nd) (hR : RightL (l ++ [x])) (hk : ∀ i, i < l.length → kCmp (keyN l i) x.1 ≤ 0) :
    ∃ k, k < (ordN (l ++ [x])).length ∧ (ordN (l ++ [x])).getD k 0 = l.length ∧ (∀ j, j < k → (ordN (l ++ [x])).getD j 0 ≠ l.length) ∧
      (x.2.1 < 0 → k = 0) ∧ (0 ≤ x.2.1 → 0 < k ∧ (((ordN (l ++ [x])).getD (k - 1) 0 : Nat) : Int) = x.2.1) := by
  have hn : (forest (l ++ [x])).n = l.length + 1 := by simp [forest]
  have hN : l.length < (forest (l ++ [x])).n := by omega
  have hgl : ∀ i, i < l.length → keyN (l ++ [x]) i = keyN l i := by
    intro i hi
    unfold keyN
    simp [List.getD_eq_getElem?_getD, List.getElem?_append_left hi]
  have hgx : (l ++ [x]).getD l.length nd0 = x := by simp [List.getD_eq_getElem?_getD]
  have hkx : keyN (l ++ [x]) l.length = x.1 := by unfold keyN; rw [hgx]
  have ho : ordN (l ++ [x]) = (forest (l ++ [x])).ord := by unfold ordN; rw [if_pos hR]
  have hmem : l.length ∈ (forest (l ++ [x])).ord := Forest.ord_mem.2 hN
  obtain ⟨A, B, hAB⟩ := List.append_of_mem hmem
  have hnd : (forest (l ++ [x])).ord.Nodup := Forest.ord_nodup
  have hb := Forest.last_behind hR.ok hN (fun j hj hne => by
    have hj' : j < l.length := by omega
    show kCmp (keyN (l ++ [x]) j) (keyN (l ++ [x]) l.length) < 0
    rw [hgl j hj', hkx]
    have h1 := hk j hj'
    rcases Int.lt_or_eq_of_le h1 with h | h
    · exact h
    · exfalso
      have := (kCmp_zero _ _).1 h
      exact hR.2 j l.length hj' (by simp) (by rw [hgl j hj', hkx]; exact this)) hAB
  rw [hAB] at hnd
  have hA : ∀ j, j < A.length → (A ++ l.length :: B).getD j 0 ≠ l.length := by
    intro j hj he
    rw [List.getD_eq_getElem?_getD, List.getElem?_append_left hj, List.getElem?_eq_getElem hj] at he
    have hmA : l.length ∈ A := by
      have := List.getElem_mem hj
      simp at he
      rw [he] at this
      exact this
    exact (List.nodup_append.1 hnd).2.2 _ hmA _ (List.mem_cons_self ..) rfl
  have hpar : (forest (l ++ [x])).par l.length = if x.2.1 < 0 then none else some x.2.1.toNat := by
    show (if parN (l ++ [x]) l.length < 0 then none else some (parN (l ++ [x]) l.length).toNat) = _
    unfold parN; rw [hgx]
  rw [ho, hAB]
  refine ⟨A.length, by simp, by simp [List.getD_eq_getElem?_getD], hA, fun hx => ?_, fun hx => ?_⟩
  · rw [hpar, if_pos hx] at hb
    simp only at hb
    rw [hb]; rfl
  · rw [hpar, if_neg (by omega)] at hb
    obtain ⟨A', rfl⟩ := hb
    refine ⟨by simp, ?_⟩
    have : (A' ++ [x.2.1.toNat] ++ l.length :: B).getD ((A' ++ [x.2.1.toNat]).length - 1) 0 = x.2.1.toNat := by
      simp [List.getD_eq_getElem?_getD]
    rw [this]
    omega
/-- What the append of region 3 keeps. -/
def nxR (base : Nat) (l : List Nd) (x : Nd) (j : Nat) (w w' : World) : Prop :=
  if j = 4 then Below base w w' ∧ (∀ v, nodeR.row 40 base l v w → nodeR.row 40 base l v w') ∧ (∀ g, base ≤ g → w.heap[g]? = some (.cells (ndB x) 40 (0, 0)) → w'.heap[g]? = some (.cells (ndB x) 40 (0, 0))) ∧ (∀ v xs, nodeR.row 41 base xs v w → nodeR.row 41 base xs v w')
  else Below w.heap.size w w'
def nxS (base : Nat) (x : Nd) : Value → World → Prop := fun v w => ∃ g, base ≤ g ∧ v = .slice (some ⟨g, 0, none⟩) 1 1 ∧ w.heap[g]? = some (.cells (ndB x) 40 (0, 0))
theorem nxR_b {base : Nat} {l : List Nd} {x : Nd} {j : Nat} {w w' : World} (hj : j ≠ 4) (h : Below w.heap.size w w') : nxR base l x j w w' := by unfold nxR; rw [if_neg hj]; exact h
theorem nxR_below {base : Nat} {l : List Nd} {x : Nd} {j : Nat} {W w w' : World} (hB : W.heap.size ≤ base) (hg : Below W.heap.size W w) (hr : nxR base l x j w w') : Below W.heap.size W w' := by
  unfold nxR at hr
  split at hr
  · exact hg.trans (hr.1.mono hB)
  · exact hg.trans (hr.mono hg.size)
theorem nxR_40 {base : Nat} {l : List Nd} {x : Nd} {j : Nat} {v : Value} {w w' : World} (hr : nxR base l x j w w') (h : nodeR.row 40 base l v w) : nodeR.row 40 base l v w' := by
  unfold nxR at hr
  split at hr
  · exact hr.2.1 v h
  · exact h.below hr
theorem nxR_41 {base : Nat} {l : List Nd} {x : Nd} {j : Nat} {v : Value} {xs : List Nd} {w w' : World} (hr : nxR base l x j w w') (h : nodeR.row 41 base xs v w) : nodeR.row 41 base xs v w' := by
  unfold nxR at hr
  split at hr
  · exact hr.2.2.2 v xs h
  · exact h.below hr
theorem nxR_S {base : Nat} {l : List Nd} {x : Nd} {j : Nat} {v : Value} {w w' : World} (hr : nxR base l x j w w') (h : nxS base x v w) : nxS base x v w' := by
  obtain ⟨g, hg, rfl, he⟩ := h
  unfold nxR at hr
  split at hr
  · exact ⟨g, hg, rfl, hr.2.2.1 g hg he⟩
  · exact ⟨g, hg, rfl, (hr.block g (Array.getElem?_eq_some_iff.1 he).1).trans he⟩
theorem nxR_app {base : Nat} {l : List Nd} {x : Nd} (h32 : x.1.2.1.length = 32) {v0 : Value} {w w' : World} (hb : Below base w w') (hk : AppKeeps nodeR.sz 40 v0 l.length (nodeR.cells [x]) w w') : nxR base l x 4 w w' := by
  unfold nxR
  rw [if_pos rfl]
  refine ⟨hb, fun v h => row_front hk h, fun g hg he => one_front (by simp [Rec.cells, nodeR]) h32 hk he, fun v xs h => ?_⟩
  refine row_same h fun g hg => ?_
  rcases hk with hbb | ⟨g1, cap, cur, rfl, hh, _, _, _, hoth⟩
  · obtain ⟨_, cur, hc⟩ := row_block h g hg
    exact hbb.block g (Array.getElem?_eq_some_iff.1 hc).1
  · refine hoth g fun he => ?_
    subst he
    exact row_tag h (by decide) g hg cur hh
theorem nx_in {w : World} {g : Nat} {x : Nd} (h32 : x.1.2.1.length = 32) (h : w.heap[g]? = some (.cells (ndB x) 40 (0, 0))) : nodeR.In w (some ⟨g, 0, none⟩) [x] := by
  refine ⟨fun y hy => by simp at hy; subst hy; exact h32, .inr ⟨g, 0, rfl, (Array.getElem?_eq_some_iff.1 h).1, fun i y hi => ?_⟩⟩
  match i, hi with
  | 0, hi =>
    simp at hi
    subst hi
    have hs := ndB_size x h32
    refine ⟨⟨rfl, ndB x, 40, (0, 0), h, by show _ ≤ _; simp [nodeR, hs]⟩, ?_⟩
    unfold aggAt
    simp only [Nat.zero_mul, Nat.add_zero, h]
    simp [nodeR, hs]
  | i + 1, hi => simp at hi
@[go_sem ↓] theorem build22 (f : Operand → Value) (y : Operand) (dst : Option Tmp) (ty' : TypeId) (pos : String) (after : Array Edge) (guard : Option (Nat × Bool)) (w : World) (hy : ndOk (f y)) :
    (execOp f ⟨dst, .buildSlice 22 1 #[(0, y)], ty', pos, after, guard⟩).run Try.prog w = .ok (.value (.slice (some ⟨w.heap.size, 0, none⟩) 1 1)) (w.alloc (.cells (aggC (f y)) 40)) := by
  obtain ⟨x, hx, hl⟩ := hy
  have := Rec.run_lit node22 w 1 [(f y, x)] (#[(0, y)].map fun (i, x) => (i, f x)) (by simp [Rec.parts]) rfl (by decide) (by decide) (by
    intro z hz; simp at hz; subst hz; exact ⟨hl, by rw [hx]; simp [nodeR, Value.cells]⟩)
  unfold execOp
  simp only [Sem.run_bind, this, Result.andThen_ok, hx, aggC_agg]
  simp [Rec.cells, nodeR]

set_option maxHeartbeats 4000000 in
set_option maxRecDepth 100000 in
theorem lawNext_any (p : Option Addr) (c : Nat) (l : List Nd) (x : Nd) (h32 : x.1.2.1.length = 32) (w : World) (hin : nodeR.In w p l) (hn : p = none → l = [] ∧ c = 0) :
    Calls Try.prog 5 #[.slice p l.length c, .agg (ndB x)] w fun e w' => e = .returned (.bool true) ∧ Below w.heap.size w w' := by
  have k0 : NdAt (w.alloc (.cells (ndB x) 40)) w.heap.size 0 x := NdAt.new w x 40 h32
  have hb0 := (Below.refl w.heap.size w).alloc (Nat.le_refl _) (.cells (ndB x) 40)
  obtain ⟨W, hW⟩ : ∃ W, W = w.alloc (.cells (ndB x) 40) := ⟨_, rfl⟩
  rw [← hW] at k0 hb0
  obtain ⟨blk, hblk⟩ : ∃ b, b = w.heap.size := ⟨_, rfl⟩
  have HX := Lib.hid (hin.below hb0)
  have HN := Lib.hid hn
  have HB0 := Lib.hid hb0
  have HK0 := Lib.hid k0
  have H32 := Lib.hid h32
  clear hin hb0 k0 hn h32
  go_enter Try.func5, Try.ntmps5
  go_upto_region 1 with fail
  rw [← hW]
  clear hW
  have HBL := Lib.hid hblk
  rw [← hblk] at HK0 ⊢
  clear hblk
  by_cases h1 : 60 < l.length
  · have hh : (60 : Int) < l.length := by omega
    go_wp2
    go_ret
    exact ⟨rfl, HB0.out⟩
  have hlen : l.length ≤ 999 := by omega
  have q1 : W.cell? ⟨blk, 34, none⟩ = some (.int .i64 x.2.1) := by simpa using HK0.out.p
  by_cases h2 : x.2.1 < -1
  · go_wp2
    go_ret
    exact ⟨rfl, HB0.out⟩
  by_cases h3 : (l.length : Int) ≤ x.2.1
  · go_wp2
    go_ret
    exact ⟨rfl, HB0.out⟩
  have HCP := Lib.hid (fun w' hi => copy_any p c l w' (by omega) hi HN.out)
  have HL1 := Lib.hid (show l.length + [x].length ≤ 100000000 by simp; omega)
  have HLL := Lib.hid (show (l ++ [x]).length ≤ 1000 by simp; omega)
  have HLN := Lib.hid (show (l ++ [x]).length = l.length + 1 by simp)
  have HNP := Lib.hid (next_place l x)
  have HLI := Lib.hid (show l.length ≤ 999 from hlen)
  go_upto_region 3 with fail
  clear q1
  obtain ⟨LL, hLL⟩ : ∃ LL, LL = l ++ [x] := ⟨_, rfl⟩
  rw [← hLL] at HLL HLN HNP
  have HLE := Lib.hid hLL
  clear hLL
  refine wp_region_specs2 [[], [0], [], [2], [1, 3], [4], [5]] [some 25, some 26, some 27, some 28, some 29, some 30, some 5] [0, 1, 2, 3, 4, 5, 6]
    (fun w_ => Below W.heap.size W w_) (fun i w_ => True) (nxR W.heap.size l x)
    (fun ix_ => [eqv (Value.slice p l.length c), nodeR.row 40 W.heap.size l, eqv (.agg (ndB x)), nxS W.heap.size x, nodeR.row 40 W.heap.size LL, nodeR.row 41 W.heap.size LL, nodeR.row 41 W.heap.size LL].getD ix_ anyv) (by kernel_rfl) (by kernel_rfl) (below_drewN (Below.refl _ _) 1) (fun _ => trivial) (fun j w_ w_' hg hr => nxR_below (Nat.le_refl _) hg hr) ?_ ?_ ?_ ?_
  · exact fun _ _ _ _ _ _ _ _ => trivial
  · intro i j v w_ w_' hij hd h hr
    have h40 : j ≠ 4 → ∀ xs, nodeR.row 40 W.heap.size xs v w_ → nodeR.row 40 W.heap.size xs v w_' := fun hj xs h => by unfold nxR at hr; rw [if_neg hj] at hr; exact h.below hr
    match i, hij, hd, h with
    | 0, _, _, h => exact h
    | 1, _, _, h => exact nxR_40 hr h
    | 2, _, _, h => exact h
    | 3, _, _, h => exact nxR_S hr h
    | 4, hij, _, h => exact h40 (fun e => hij e.symm) _ h
    | 5, _, _, h => exact nxR_41 hr h
    | 6, _, _, h => exact nxR_41 hr h
    | i + 7, _, _, h => exact trivial
  · refine ⟨?_, ?_, ?_, ?_, ?_, ?_, ?_, trivial⟩
    · intro vs wq hG hP hd
      simp only [putL]
      clear hd hP
      go_wp2
      exact ⟨rfl, rfl, nxR_b (by decide) (Below.refl _ _), rfl⟩
    · intro vs wq hG hP hd
      have h0 := hd.get 0 rfl
      change vs 0 = _ at h0
      simp only [putL, h0]
      have HGS := Lib.hid hG
      clear hd hP h0 hG
      go_wp2_with fail
      refine (HCP.out wq (HX.out.below HGS.out)).mono ?_
      rintro e w1 ⟨v, rfl, hr1, hb1⟩
      have HR1 := Lib.hid (hr1.base HGS.out.size)
      have HB1 := Lib.hid hb1
      clear hr1 hb1
      go_wp2
      exact ⟨rfl, rfl, nxR_b (by decide) HB1.out, HR1.out⟩
    · intro vs wq hG hP hd
      have n1 := (HK0.out.below hG).f
      have n2 := (HK0.out.below hG).a
      simp only [putL]
      clear hd hP
      go_wp2
      exact ⟨rfl, rfl, nxR_b (by decide) (Below.refl _ _), rfl⟩
    · intro vs wq hG hP hd
      have h2 := hd.get 2 rfl
      change vs 2 = _ at h2
      have n1 := H32.out
      have HGS := Lib.hid hG
      simp only [putL, h2]
      clear hd hP h2 hG
      go_wp2
      exact ⟨rfl, rfl, nxR_b (by decide) ((Below.refl _ _).alloc (Nat.le_refl _) _), wq.heap.size, HGS.out.size, rfl, (MapKept.heap_alloc wq _).1⟩
    · intro vs wq hG hP hd
      have H1 := Lib.hid (hd.get 1 rfl)
      obtain ⟨g3, hg3, h3, hh3⟩ := hd.get 3 rfl
      have HGS := Lib.hid hG
      have HH3 := Lib.hid (nx_in H32.out hh3)
      simp only [putL, h3]
      clear hd hP h3 hG hh3
      generalize vs 1 = v1 at *
      go_wp2_with (at_builtin; refine wpList_appK node22 rfl _ _ rfl W.heap.size v1 l [x] LL HLE.out rfl H1.out ⟨g3, 0, none⟩ 1 rfl HH3.out (by simp) HL1.out HGS.out.size ?_)
      intro v' w' k1 k2 k3 k4
      exact ⟨rfl, rfl, nxR_app H32.out k3 k4, k1⟩
    · intro vs wq hG hP hd
      obtain ⟨p4, c4, h4, _, _, hi4, _⟩ := Rec.row.sl (R := nodeR) (hd.get 4 rfl)
      have HI4 := Lib.hid hi4
      have HGS := Lib.hid hG
      simp only [putL, h4]
      clear hd hP h4 hG hi4
      go_wp2_with fail
      refine (told_any p4 c4 LL wq HLL.out HI4.out).mono ?_
      rintro e w1 ⟨v, rfl, hr1, hb1⟩
      have HR1 := Lib.hid (hr1.base HGS.out.size)
      have HB1 := Lib.hid hb1
      clear hr1 hb1
      go_wp2
      exact ⟨rfl, rfl, nxR_b (by decide) HB1.out, HR1.out⟩
    · intro vs wq hG hP hd
      have H5 := Lib.hid (hd.get 5 rfl)
      simp only [putL]
      clear hd hP
      go_wp2
      exact ⟨rfl, rfl, nxR_b (by decide) (Below.refl _ _), H5.out⟩
  intro vs wa hG hd
  obtain ⟨p6, c6, h6, _, _, hi6, _⟩ := Rec.row.sl (R := nodeR) (hd.get 6 rfl)
  have HA := Lib.hid hG
  have HI6 := Lib.hid hi6
  simp only [putL, List.getD_cons_zero, List.getD_cons_succ, Act.put, List.setIfInBounds_toArray, List.set_cons_zero, List.set_cons_succ, h6]
  clear hd hG hi6 h6 HCP
  generalize vs 0 = z0 at *
  generalize vs 1 = z1 at *
  generalize vs 2 = z2 at *
  generalize vs 3 = z3 at *
  generalize vs 4 = z4 at *
  generalize vs 5 = z5 at *
  go_wp2_with fail
  refine (tright_any p6 c6 LL wa HLL.out HI6.out).mono ?_
  rintro e w3 ⟨rfl, hb3⟩
  have HB3 := Lib.hid (HA.out.trans (hb3.mono HA.out.size))
  have HI3 := Lib.hid (HI6.out.below hb3)
  clear hb3
  by_cases hR : RightL LL
  case neg =>
    have hd : decide (RightL LL) = false := decide_eq_false hR
    rw [hd]
    clear hd hR
    go_wp2_with fail
    refine (awake_any _).mono ?_
    rintro e w9 ⟨rfl, hb9⟩
    have HB9 := Lib.hid (HB0.out.trans ((HB3.out.trans (hb9.mono HB3.out.size)).mono HB0.out.size))
    clear hb9
    go_wp2
    go_ret
    exact ⟨rfl, HB9.out⟩
  have hd : decide (RightL LL) = true := decide_eq_true hR
  rw [hd]
  have HR := Lib.hid hR
  clear hd hR
  obtain ⟨⟨kt, kc, ki⟩, xp, xr, xd⟩ := x
  simp only at H32 h2 h3
  go_wp2_with fail
  go_loopg [6] l.length (fun g v6 wr => ∃ k : Nat, g + k = l.length ∧ v6 = .int .i64 k ∧ (∀ i, i < k → kCmp (keyN l i) (kt, kc, ki) ≤ 0) ∧ Below w3.heap.size w3 wr)
  case atStart => exact ⟨0, by omega, rfl, fun i hi => by omega, Below.refl _ _⟩
  case round =>
    obtain ⟨k, hg, rfl, hall, hbw⟩ := hrel
    have HG := Lib.hid hg
    have HALL := Lib.hid hall
    have HB := Lib.hid hbw
    have HBW := Lib.hid (HB3.out.trans (hbw.mono HB3.out.size))
    clear hg hall hbw
    by_cases hk : k < l.length
    · obtain ⟨b, off, rfl, hlt, h321, hat⟩ := node_at (HX.out.below HBW.out) hk
      have HKN := Lib.hid (show keyN l k = (l.getD k nd0).1 from rfl)
      have s1 := hat.kf
      have s2 := hat.ka
      have s3 := (HK0.out.below HBW.out).kf
      have s4 := (HK0.out.below HBW.out).ka
      simp only at s4
      generalize l.getD k nd0 = y at *
      obtain ⟨⟨yt, yc, yi⟩, yp, yr, yd⟩ := y
      simp only at s2 HKN h321
      have HKC := Lib.hid (fun W => keys_any yt yc yi kt kc ki h321 H32.out W)
      have HKE := Lib.hid (show kCmp (keyN l k) (kt, kc, ki) = keysCmp yt yc yi kt kc ki by rw [HKN.out]; rfl)
      generalize keysCmp yt yc yi kt kc ki = cc at *
      have i1 : (k : Int) < l.length := by omega
      have q0 : b < wr.heap.size := hlt
      have q9 : blk < wr.heap.size := s3.lt
      clear hat
      by_cases hc : 0 < cc
      · have d1 : decide (0 < cc) = true := decide_eq_true hc
        go_wp2_with fail
        refine wp_region_over (by kernel_rfl) (by kernel_rfl) ?_
        repeat (go_big_quiet_step ((go_at_call 19; exact Calls.over_of (HKC.out _))))
        refine wpQuiet_nil ?_
        rintro _ ⟨z0, rfl⟩
        have HBI := Lib.hid (HBW.out.trans ((ov_below wr z0).mono HBW.out.size))
        clear s1 s2 s3 s4
        go_wp2_with fail
        refine (awake_any _).mono ?_
        rintro e w9 ⟨rfl, hb9⟩
        have HB9 := Lib.hid (HB0.out.trans ((HBI.out.trans (hb9.mono HBI.out.size)).mono HB0.out.size))
        clear hb9
        go_wp2
        go_ret
        exact ⟨rfl, HB9.out⟩
      · have d1 : decide (0 < cc) = false := decide_eq_false hc
        have HC := Lib.hid (show kCmp (keyN l k) (kt, kc, ki) ≤ 0 by rw [HKE.out]; omega)
        go_wp2_with fail
        refine wp_region_over (by kernel_rfl) (by kernel_rfl) ?_
        repeat (go_big_quiet_step ((go_at_call 19; exact Calls.over_of (HKC.out _))))
        refine wpQuiet_nil ?_
        rintro _ ⟨z0, rfl⟩
        have HBI := Lib.hid (HB.out.trans ((ov_below wr z0).mono HB.out.size))
        clear s1 s2 s3 s4
        go_wp2
        go_roundg (gk - 1)
        case measure => have := HG.out; omega
        case rel => exact ⟨k + 1, by have := HG.out; omega, by go_num, fun i hi => by rcases Nat.lt_succ_iff_lt_or_eq.1 hi with h | rfl; exact HALL.out i h; exact HC.out, HBI.out⟩
    · have HMK := Lib.hid (show k = l.length by have := HG.out; omega)
      obtain ⟨kk, m1, m2, m3, m4, m5⟩ := HNP.out HR.out (fun i hi => HALL.out i (by rw [HMK.out]; exact hi))
      have M2 := Lib.hid m2
      have M3 := Lib.hid m3
      have M4 := Lib.hid m4
      have M5 := Lib.hid m5
      clear m2 m3 m4 m5 HNP HALL
      go_wp2_with fail
      refine (torder_any p6 c6 LL _ HLL.out (HI3.out.below HB.out)).mono ?_
      rintro e w4 ⟨v4, rfl, hr4, hb4⟩
      have HB4 := Lib.hid (HBW.out.trans (hb4.mono HBW.out.size))
      obtain ⟨p4, c4, rfl, _, _, hi4, _⟩ := hr4.sl
      have HI4 := Lib.hid hi4
      have HOL := Lib.hid (show (ordN LL).length = LL.length from ordN_len HR.out)
      have h9 := HLN.out
      have h8 := HOL.out
      rw [toI_len]
      generalize ordN LL = O at *
      clear hr4 hb4 hi4
      go_wp2_with fail
      go_loopg [8, 9] O.length (fun g v8 v9 wz => ∃ k : Nat, g + k = O.length ∧ v9 = .int .i64 k ∧ k ≤ kk ∧ v8 = .int .i64 (if k = 0 then -1 else (O.getD (k - 1) 0 : Nat)) ∧ Below w4.heap.size w4 wz)
      case atStart => exact ⟨0, by omega, rfl, by omega, rfl, Below.refl _ _⟩
      case round =>
        obtain ⟨m, hg, rfl, hmk, rfl, hbw⟩ := hrel
        have HG2 := Lib.hid hg
        have HBZ := Lib.hid hbw
        have HBY := Lib.hid (HB4.out.trans (hbw.mono HB4.out.size))
        have HMM := Lib.hid hmk
        clear hg hbw hmk
        have hml : m < O.length := by have := HMM.out; omega
        have i1 : (m : Int) < l.length + 1 := by omega
        have hxI : (toI O)[m]? = some ((O.getD m 0 : Nat) : Int) := by
          unfold toI; rw [List.getElem?_map]; simp [List.getD_eq_getElem?_getD, hml]
        rcases (HI4.out.below HBZ.out).2 with h | ⟨b1, o1, rfl, hlt1, hc1⟩
        · rw [h] at hxI; simp at hxI
        have q1 := int_cell (hc1 m _ hxI)
        have q2 : wr.cell? ⟨blk, 34, none⟩ = some (.int .i64 xp) := by simpa using (HK0.out.below HBY.out).p
        clear hc1 hxI h8 h9
        by_cases hmk : m = kk
        · subst hmk
          have hx := M2.out
          rw [hx] at q1
          by_cases hneg : xp < 0
          · have hm0 : m = 0 := M4.out hneg
            have bz : ((m : Int) == 0) = true := by rw [hm0]; rfl
            have BZ := Lib.hid hm0
            clear hm0 bz
            go_upto_region 20 with fail
            have hm0 := BZ.out
            subst hm0
            go_wp2_with fail
            refine (awake_any _).mono ?_
            rintro e w9 ⟨rfl, hb9⟩
            have HB9 := Lib.hid (HB0.out.trans ((HBY.out.trans (hb9.mono HBY.out.size)).mono HB0.out.size))
            clear hb9
            go_wp2
            go_ret
            exact ⟨rfl, HB9.out⟩
          · obtain ⟨hm0, hat⟩ := M5.out (by omega)
            have hif : (if m = 0 then (-1 : Int) else ((O.getD (m - 1) 0 : Nat) : Int)) = xp := by rw [if_neg (by omega)]; exact hat
            rw [hif]
            clear hat hif
            go_wp2_with fail
            refine (awake_any _).mono ?_
            rintro e w9 ⟨rfl, hb9⟩
            have HB9 := Lib.hid (HB0.out.trans ((HBY.out.trans (hb9.mono HBY.out.size)).mono HB0.out.size))
            clear hb9
            go_wp2
            go_ret
            exact ⟨rfl, HB9.out⟩
        · have hne := M3.out m (by have := HMM.out; omega)
          have hb1 : (((O.getD m 0 : Nat) : Int) == (l.length : Int)) = false := by rw [beq_eq_false_iff_ne]; omega
          obtain ⟨y, hy⟩ : ∃ y, y = O.getD m 0 := ⟨_, rfl⟩
          have HY := Lib.hid hy
          rw [← hy] at q1 hb1
          clear hy hne
          go_wp2
          go_roundg (gk - 1)
          case measure => have := HG2.out; omega
          case rel => exact ⟨m + 1, by have := HG2.out; omega, by go_num, by have := HMM.out; omega, by rw [if_neg (by omega), Nat.add_sub_cancel, ← HY.out], HBZ.out⟩
set_option maxRecDepth 100000 in
theorem treeNext_walk {H : Type} {enc : TypeId × Value → H} {W : World} {b0 b1 : Nat} {v0 v1 : Value} {d0 d1 : DataW H} {p0 p1 : List MemPlace}
    (k0 : Value.okWide Try.prog W .any b0 22 v0) (h0 : DataW.Trod enc Try.prog W 0 (fun _ => true) true 22 v0 d0 p0)
    (k1 : Value.okWide Try.prog W .any b1 40 v1) (h1 : DataW.Trod enc Try.prog W 0 (fun _ => true) true 40 v1 d1 p1) :
    Calls Try.prog 5 #[v0, v1] W fun e w' => e = .returned (.bool true) ∧ Below W.heap.size W w' := by
  obtain ⟨xs, p, q, rfl, hc1, hm1, hi1, hn1⟩ := reads_nodes h0 (okWide_slice Try.underlying22 k0)
  obtain ⟨cs, rfl⟩ := ok_agg Try.underlying40 k1
  obtain ⟨fuel, h1⟩ := h1
  obtain ⟨x, h32, hcs, _⟩ := trod_node h1
  have : cs = ndB x := by
    apply Array.ext'
    simpa [Value.cells] using hcs
  subst this
  exact lawNext_any p q xs x h32 W hi1 hn1
end Go.Proofs.Ytchbpfkjhilgiaa
