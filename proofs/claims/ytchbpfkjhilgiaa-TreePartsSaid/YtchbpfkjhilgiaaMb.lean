/- merge of numbers, any length. -/
import Derived.Test.YtchbpfkjhilgiaaMa
namespace Go.Proofs.Ytchbpfkjhilgiaa
open Go.RowKit
set_option linter.unusedVariables false

/-- What an operation of a round's append does to the world. -/
def appN (base : Nat) (vo : Value) (i : Nat) (w w' : World) : Prop := if i = 5 then w.grownBy w' vo.ownBlock ∧ Below base w w' else Below w.heap.size w w'
/-- One number in a new slice, away from a row's block. -/
def oneN (vo : Value) (x : Int) : Value → World → Prop := fun v w => ∃ g, v = .slice (some ⟨g, 0, none⟩) 1 1 ∧ intR.In w (some ⟨g, 0, none⟩) [x] ∧ some g ≠ vo.ownBlock
theorem appN_b {base : Nat} {vo : Value} {i : Nat} {w w' : World} (h : i ≠ 5) (hb : Below w.heap.size w w') : appN base vo i w w' := by unfold appN; rw [if_neg h]; exact hb
theorem appN_below {base : Nat} {vo : Value} {i : Nat} {W w w' : World} (hB : base = W.heap.size) (hg : Below W.heap.size W w) (hr : appN base vo i w w') : Below W.heap.size W w' := by
  unfold appN at hr
  split at hr
  · subst hB; exact hg.trans hr.2
  · exact hg.trans (hr.mono hg.size)
theorem oneN_st {base : Nat} {vo : Value} {i : Nat} {x : Int} {v : Value} {w w' : World} (h : oneN vo x v w) (hr : appN base vo i w w') : oneN vo x v w' := by
  obtain ⟨g, rfl, hi, hn⟩ := h
  refine ⟨g, rfl, ?_, hn⟩
  unfold appN at hr
  split at hr
  · refine ⟨hi.1, ?_⟩
    rcases hi.2 with h0 | ⟨b, off, he, hlt, hc⟩
    · exact .inl h0
    · cases he
      have e := hr.1.block g hlt hn
      refine .inr ⟨g, 0, rfl, Nat.lt_of_lt_of_le hlt hr.2.size, fun k y hk => ?_⟩
      obtain ⟨h1, h2⟩ := hc k y hk
      exact ⟨fits_of_block (a := ⟨g, 0 + k * intR.sz, none⟩) e h1, (aggAt_of_block (a := ⟨g, 0 + k * intR.sz, none⟩) e).trans h2⟩
  · exact hi.below hr
theorem ownN_ne {w : World} {base : Nat} {O : List Int} {vo : Value} (h : intR.row 3 base O vo w) : some w.heap.size ≠ vo.ownBlock := by
  obtain ⟨_, _, ⟨rfl, _⟩ | ⟨g, cap, cur, rfl, hg, hh, _⟩⟩ := h
  · intro e; cases e
  · intro e
    simp only [Value.ownBlock, Option.some.injEq] at e
    have := (Array.getElem?_eq_some_iff.1 hh).1
    omega
/-- What a round finds. -/
def NInv (W : World) (n : Nat) (le : Int → Int → Bool) (S : Int → Prop) (R : List Int) (g : Nat) (va vb vo : Value) (wr : World) : Prop :=
  ∃ A B O, intR.Sl W va A ∧ intR.Sl W vb B ∧ intR.row 3 W.heap.size O vo wr ∧ O ++ List.merge A B le = R ∧ O.length + A.length + B.length = n ∧ (∀ x ∈ A, S x) ∧ (∀ x ∈ B, S x) ∧ g = A.length + B.length ∧ Below W.heap.size W wr

theorem Sl_take {w : World} {b off n cap k : Nat} {xs : List Int} (h : intR.Sl w (.slice (some ⟨b, off, none⟩) n cap) xs) (hl : xs.length = n) (hk : k ≤ n) : intR.Sl w (.slice (some ⟨b, off, none⟩) k cap) (xs.take k) := by
  obtain ⟨a, c, he, q1, q2, q3, q4⟩ := h
  cases he
  exact ⟨_, cap, by rw [List.length_take, hl, Nat.min_eq_left hk], by rw [List.length_take]; omega, q2, q3.take k, fun e => by cases e⟩
theorem Sl_drop {w : World} {b off n cap k : Nat} {xs : List Int} (h : intR.Sl w (.slice (some ⟨b, off, none⟩) n cap) xs) (hl : xs.length = n) (hk : k ≤ n) : intR.Sl w (.slice (some ⟨b, off + k, none⟩) (n - k) (cap - k)) (xs.drop k) := by
  obtain ⟨a, c, he, q1, q2, q3, q4⟩ := h
  cases he
  refine ⟨some ⟨b, off + k, none⟩, cap - k, by rw [List.length_drop, hl], by rw [List.length_drop]; omega, by unfold maxLen at *; omega, ?_, fun e => by cases e⟩
  have := q3.drop k
  simpa [intR] using this

set_option maxHeartbeats 4000000 in
set_option maxRecDepth 100000 in
theorem mergeN_big (p : Nat) (K : Int → Int → Int) (S : Int → Prop) (n : Nat) (hn2 : 2 ≤ n) (ih : ∀ m, m < n → MergeN p K S m) : MergeN p K S n := by
  intro a cap xs w hlen hm hsl hS hclo
  have hsl' := hsl
  obtain ⟨a', c', he, q1, q2, q3, q4⟩ := hsl'
  have hcap : n ≤ cap := by injection he with e1 e2 e3; omega
  have hcm : cap ≤ 9223372036854775807 := by injection he with e1 e2 e3; unfold maxLen at q2; omega
  rcases q3.2 with rfl | ⟨b, off, rfl, hlt, hc⟩
  · simp at hlen; omega
  cases he
  clear hc q3 q4
  have H1 := Lib.hid (fun W hb => ih (xs.length / 2) (by omega) (some ⟨b, off, none⟩) cap (xs.take (xs.length / 2)) W (by simp; omega) (by omega) ((Sl_take (k := xs.length / 2) hsl rfl (by omega)).below (w := w) hb) (fun x hx => hS x (List.mem_of_mem_take hx)) (hclo.below hb))
  have H2 := Lib.hid (fun W hb => ih (xs.length - xs.length / 2) (by omega) (some ⟨b, off + xs.length / 2, none⟩) (cap - xs.length / 2) (xs.drop (xs.length / 2)) W (by simp) (by omega) ((Sl_drop (k := xs.length / 2) hsl rfl (by omega)).below (w := w) hb) (fun x hx => hS x (List.mem_of_mem_drop hx)) (hclo.below hb))
  unfold fclo at *
  have HM := Lib.hid (mergeI_big (leK K) xs (by omega))
  have HCL := Lib.hid hclo
  have HSS := Lib.hid hS
  clear ih hsl hclo hS
  obtain ⟨n, hn⟩ : ∃ n, n = xs.length := ⟨_, rfl⟩
  rw [← hn] at H1 H2 HM q1 hcap hn2 hm ⊢
  have HLEN := Lib.hid hn
  have hhalf : ((n : Int) / 2) = ((n / 2 : Nat) : Int) := by omega
  obtain ⟨h, hh⟩ : ∃ h, h = n / 2 := ⟨_, rfl⟩
  rw [← hh] at H1 H2 HM hhalf
  have HH := Lib.hid hh
  have hh1 : h ≤ n := by omega
  have hh2 : (h : Int) ≤ n := by omega
  clear hh hn hlen q1
  unfold maxLen at q2
  go_enter Try.func37, Try.ntmps37
  go_wp2_with fail
  apply wp_region_specsL [[], [], [1], [2], [0, 3], [], [4, 5], [], [], [8], [9], [7, 10], [], [11, 12], [6], [13]] [some 13, some 14, some 15, some 16, some 17, some 18, some 19, some 20, some 21, some 22, some 23, some 24, some 25, some 26, some 5, some 6] [0, 1, 2, 3, 4, 5, 6, 7, 8, 9, 10, 11, 12, 13, 14, 15]
    [eqv _, eqv _, eqv _, eqv _, eqv _, eqv _, intR.row 3 w.heap.size (mergeI (leK K) (xs.take h)), eqv _, eqv _, eqv _, eqv _, eqv _, eqv _, intR.row 3 w.heap.size (mergeI (leK K) (xs.drop h)), intR.row 3 w.heap.size (mergeI (leK K) (xs.take h)), intR.row 3 w.heap.size (mergeI (leK K) (xs.drop h))]
  case hm => kernel_rfl
  case hok => kernel_rfl
  case hop =>
    refine ⟨?_, ?_, ?_, ?_, ?_, ?_, ?_, ?_, ?_, ?_, ?_, ?_, ?_, ?_, ?_, ?_, trivial⟩
    · intro vs w1 hr _ hd
      obtain ⟨x1, rfl⟩ := ov_of hr
      clear hr
      simp only [putL]
      clear hd 
      go_wp2
      exact opEnds_mk rfl (by simp only [List.getElem?_toArray, List.getElem?_cons_succ, List.getElem?_cons_zero] <;> rfl) rfl (Below.refl _ _) rfl
    · intro vs w1 hr _ hd
      obtain ⟨x1, rfl⟩ := ov_of hr
      clear hr
      simp only [putL]
      clear hd 
      go_wp2
      exact opEnds_mk rfl (by simp only [List.getElem?_toArray, List.getElem?_cons_succ, List.getElem?_cons_zero] <;> rfl) rfl (Below.refl _ _) rfl
    · intro vs w1 hr _ hd
      obtain ⟨x1, rfl⟩ := ov_of hr
      clear hr
      have h1 := hd.get 1 rfl
      change vs 1 = _ at h1
      simp only [putL, h1]
      clear hd h1
      go_wp2
      exact opEnds_mk rfl (by simp only [List.getElem?_toArray, List.getElem?_cons_succ, List.getElem?_cons_zero] <;> rfl) rfl (Below.refl _ _) rfl
    · intro vs w1 hr _ hd
      obtain ⟨x1, rfl⟩ := ov_of hr
      clear hr
      have h2 := hd.get 2 rfl
      change vs 2 = _ at h2
      simp only [putL, h2]
      clear hd h2
      go_wp2
      exact opEnds_mk rfl (by simp only [List.getElem?_toArray, List.getElem?_cons_succ, List.getElem?_cons_zero] <;> rfl) rfl (Below.refl _ _) rfl
    · intro vs w1 hr _ hd
      obtain ⟨x1, rfl⟩ := ov_of hr
      clear hr
      have h0 := hd.get 0 rfl
      change vs 0 = _ at h0
      have h3 := hd.get 3 rfl
      change vs 3 = _ at h3
      simp only [putL, h0, h3]
      clear hd h0 h3
      go_wp2
      exact opEnds_mk rfl (by simp only [List.getElem?_toArray, List.getElem?_cons_succ, List.getElem?_cons_zero] <;> rfl) rfl (Below.refl _ _) rfl
    · intro vs w1 hr _ hd
      obtain ⟨x1, rfl⟩ := ov_of hr
      clear hr
      simp only [putL]
      clear hd 
      go_wp2
      exact opEnds_mk rfl (by simp only [List.getElem?_toArray, List.getElem?_cons_succ, List.getElem?_cons_zero] <;> rfl) rfl (Below.refl _ _) rfl
    · intro vs w1 hr _ hd
      obtain ⟨x1, rfl⟩ := ov_of hr
      clear hr
      have h4 := hd.get 4 rfl
      change vs 4 = _ at h4
      have h5 := hd.get 5 rfl
      change vs 5 = _ at h5
      have hcall := Lib.hid (H1.out _ (ov_below w x1))
      simp only [putL, h4, h5]
      clear hd h4 h5
      go_wp2_with fail
      refine (hcall.out).mono ?_
      rintro e w2 ⟨v, rfl, ho, hb2⟩
      go_wp2
      exact opEnds_mk rfl (by simp only [List.getElem?_toArray, List.getElem?_cons_succ, List.getElem?_cons_zero] <;> rfl) rfl hb2 (ho.base (ov_size w x1))
    · intro vs w1 hr _ hd
      obtain ⟨x1, rfl⟩ := ov_of hr
      clear hr
      simp only [putL]
      clear hd 
      go_wp2
      exact opEnds_mk rfl (by simp only [List.getElem?_toArray, List.getElem?_cons_succ, List.getElem?_cons_zero] <;> rfl) rfl (Below.refl _ _) rfl
    · intro vs w1 hr _ hd
      obtain ⟨x1, rfl⟩ := ov_of hr
      clear hr
      simp only [putL]
      clear hd 
      go_wp2
      exact opEnds_mk rfl (by simp only [List.getElem?_toArray, List.getElem?_cons_succ, List.getElem?_cons_zero] <;> rfl) rfl (Below.refl _ _) rfl
    · intro vs w1 hr _ hd
      obtain ⟨x1, rfl⟩ := ov_of hr
      clear hr
      have h8 := hd.get 8 rfl
      change vs 8 = _ at h8
      simp only [putL, h8]
      clear hd h8
      go_wp2
      exact opEnds_mk rfl (by simp only [List.getElem?_toArray, List.getElem?_cons_succ, List.getElem?_cons_zero] <;> rfl) rfl (Below.refl _ _) rfl
    · intro vs w1 hr _ hd
      obtain ⟨x1, rfl⟩ := ov_of hr
      clear hr
      have h9 := hd.get 9 rfl
      change vs 9 = _ at h9
      simp only [putL, h9]
      clear hd h9
      go_wp2
      exact opEnds_mk rfl (by simp only [List.getElem?_toArray, List.getElem?_cons_succ, List.getElem?_cons_zero] <;> rfl) rfl (Below.refl _ _) rfl
    · intro vs w1 hr _ hd
      obtain ⟨x1, rfl⟩ := ov_of hr
      clear hr
      have h7 := hd.get 7 rfl
      change vs 7 = _ at h7
      have h10 := hd.get 10 rfl
      change vs 10 = _ at h10
      simp only [putL, h7, h10]
      clear hd h7 h10
      go_wp2
      exact opEnds_mk rfl (by simp only [List.getElem?_toArray, List.getElem?_cons_succ, List.getElem?_cons_zero] <;> rfl) rfl (Below.refl _ _) rfl
    · intro vs w1 hr _ hd
      obtain ⟨x1, rfl⟩ := ov_of hr
      clear hr
      simp only [putL]
      clear hd 
      go_wp2
      exact opEnds_mk rfl (by simp only [List.getElem?_toArray, List.getElem?_cons_succ, List.getElem?_cons_zero] <;> rfl) rfl (Below.refl _ _) rfl
    · intro vs w1 hr _ hd
      obtain ⟨x1, rfl⟩ := ov_of hr
      clear hr
      have h11 := hd.get 11 rfl
      change vs 11 = _ at h11
      have h12 := hd.get 12 rfl
      change vs 12 = _ at h12
      have hcall := Lib.hid (H2.out _ (ov_below w x1))
      simp only [putL, h11, h12]
      clear hd h11 h12
      go_wp2_with fail
      refine (hcall.out).mono ?_
      rintro e w2 ⟨v, rfl, ho, hb2⟩
      go_wp2
      exact opEnds_mk rfl (by simp only [List.getElem?_toArray, List.getElem?_cons_succ, List.getElem?_cons_zero] <;> rfl) rfl hb2 (ho.base (ov_size w x1))
    · intro vs w1 hr _ hd
      obtain ⟨x1, rfl⟩ := ov_of hr
      clear hr
      have h6 := hd.get 6 rfl
      simp only [putL]
      clear hd 
      go_wp2
      exact opEnds_mk rfl (by simp only [List.getElem?_toArray, List.getElem?_cons_succ, List.getElem?_cons_zero] <;> rfl) rfl (Below.refl _ _) h6
    · intro vs w1 hr _ hd
      obtain ⟨x1, rfl⟩ := ov_of hr
      clear hr
      have h13 := hd.get 13 rfl
      simp only [putL]
      clear hd 
      go_wp2
      exact opEnds_mk rfl (by simp only [List.getElem?_toArray, List.getElem?_cons_succ, List.getElem?_cons_zero] <;> rfl) rfl (Below.refl _ _) h13
  case hst => exact ⟨eqv_st _ _, eqv_st _ _, eqv_st _ _, eqv_st _ _, eqv_st _ _, eqv_st _ _, Rec.row_st _ _ _, eqv_st _ _, eqv_st _ _, eqv_st _ _, eqv_st _ _, eqv_st _ _, eqv_st _ _, Rec.row_st _ _ _, Rec.row_st _ _ _, Rec.row_st _ _ _, trivial⟩
  case hend =>
    intro vs w1 hr hd
    have h0 := hd.get 0 rfl
    change vs 0 = _ at h0
    have h1 := hd.get 1 rfl
    change vs 1 = _ at h1
    have h2 := hd.get 2 rfl
    change vs 2 = _ at h2
    have h3 := hd.get 3 rfl
    change vs 3 = _ at h3
    have h4 := hd.get 4 rfl
    change vs 4 = _ at h4
    have h5 := hd.get 5 rfl
    change vs 5 = _ at h5
    have h6 := hd.get 6 rfl
    have h7 := hd.get 7 rfl
    change vs 7 = _ at h7
    have h8 := hd.get 8 rfl
    change vs 8 = _ at h8
    have h9 := hd.get 9 rfl
    change vs 9 = _ at h9
    have h10 := hd.get 10 rfl
    change vs 10 = _ at h10
    have h11 := hd.get 11 rfl
    change vs 11 = _ at h11
    have h12 := hd.get 12 rfl
    change vs 12 = _ at h12
    have h13 := hd.get 13 rfl
    have h14 := hd.get 14 rfl
    have h15 := hd.get 15 rfl
    obtain ⟨x1, rfl⟩ := ov_of hr
    simp only [putL, List.getD_cons_zero, List.getD_cons_succ, Act.put, List.setIfInBounds_toArray, List.set_cons_zero, List.set_cons_succ, h0, h1, h2, h3, h4, h5, h7, h8, h9, h10, h11, h12]
    clear hd hr h0 h1 h2 h3 h4 h5 h7 h8 h9 h10 h11 h12
    have HR := Lib.hid (ov_below w x1)
    have l1 : (mergeI (leK K) (xs.take h)).length = h := by rw [mergeI_length]; simp; have := HLEN.out; omega
    have l2 : (mergeI (leK K) (xs.drop h)).length = n - h := by rw [mergeI_length]; simp; have := HLEN.out; omega
    have HSA := Lib.hid (show ∀ x ∈ mergeI (leK K) (xs.take h), S x from fun x hx => HSS.out x (List.mem_of_mem_take ((mergeI_perm _ _).mem_iff.1 hx)))
    have HSB := Lib.hid (show ∀ x ∈ mergeI (leK K) (xs.drop h), S x from fun x hx => HSS.out x (List.mem_of_mem_drop ((mergeI_perm _ _).mem_iff.1 hx)))
    have s1 := h14.sl
    have s2 := h15.sl
    generalize ov w x1 = w1 at *
    generalize vs 6 = v6 at *
    generalize vs 13 = v13 at *
    generalize vs 14 = v14 at *
    generalize vs 15 = v15 at *
    obtain ⟨A0, hA0⟩ : ∃ A0, A0 = mergeI (leK K) (xs.take h) := ⟨_, rfl⟩
    obtain ⟨B0, hB0⟩ : ∃ B0, B0 = mergeI (leK K) (xs.drop h) := ⟨_, rfl⟩
    rw [← hA0] at l1 s1 HSA
    rw [← hB0] at l2 s2 HSB
    obtain ⟨R, hR⟩ : ∃ R, R = mergeI (leK K) xs := ⟨_, rfl⟩
    have HRE := Lib.hid (show List.merge A0 B0 (leK K) = R by rw [hR, HM.out, hA0, hB0])
    have HRL := Lib.hid (show R.length = n by rw [hR, mergeI_length, HLEN.out])
    have HRR := Lib.hid hR
    have HCL1 := Lib.hid (HCL.out.below HR.out)
    have HSAB := Lib.hid (And.intro HSA.out HSB.out)
    obtain ⟨vo, w2, hmk, hro, hbk⟩ := Rec.run_mk int40 w1 n (by omega)
    have S1 := Lib.hid s1
    have S2 := Lib.hid s2
    have HRO := Lib.hid hro
    have HBK := Lib.hid hbk
    have HMK := Lib.hid hmk
    clear HM H1 H2 hA0 hB0 h6 h13 h14 h15 s1 s2 hro hbk hmk hR HSA HSB hhalf hh2
    go_wp2_with fail
    rw [HMK.out]
    simp only [Result.andThen_ok]
    rw [Oper.upon_value]
    clear HMK
    go_wp2_with fail
    go_loopg [5, 6, 7] n (fun g va vb vo wr => NInv w1 n (leK K) S R g va vb vo wr)
    case atStart => exact ⟨A0, B0, [], S1.out, S2.out, HRO.out, by rw [← HRE.out]; rfl, by simp; omega, HSAB.out.1, HSAB.out.2, by omega, HBK.out⟩
    case round =>
      obtain ⟨A, B, O, sa, sb, ho, hmr, hlen, hsa, hsb, hg, hb⟩ := hrel
      have SA := Lib.hid sa
      have SB := Lib.hid sb
      have HO := Lib.hid ho
      have HMR := Lib.hid hmr
      have HL := Lib.hid hlen
      have HSA := Lib.hid hsa
      have HSB := Lib.hid hsb
      have HG := Lib.hid hg
      have HB := Lib.hid hb
      clear sa sb ho hmr hlen hsa hsb hg hb
      cases A with
      | nil =>
        obtain ⟨a1, k1, rfl, q1, q2, q3, q4⟩ := SA.out
        obtain ⟨a2, k2, rfl, p1, p2, p3, p4⟩ := SB.out
        simp only [List.length_nil]
        have Q3 := Lib.hid q3
        have P3 := Lib.hid p3
        have Q4 := Lib.hid q4
        have P4 := Lib.hid p4
        clear q1 q2 q3 q4 p1 p2 p3 p4
        obtain ⟨O1, hO1⟩ : ∃ O1, O1 = O ++ [] := ⟨_, rfl⟩
        have HO1E := Lib.hid hO1
        have HO1L := Lib.hid (show O1.length = O.length + ([] : List Int).length by rw [hO1, List.length_append])
        have HO2E := Lib.hid (show R = O1 ++ B by rw [hO1, ← HMR.out]; simp)
        have HC1 := Lib.hid (show O.length + ([] : List Int).length ≤ 100000000 by have := HL.out; simp only [List.length_nil] at this ⊢; omega)
        have HC2 := Lib.hid (show O1.length + (B : List Int).length ≤ 100000000 by have := HL.out; rw [HO1L.out]; simp only [List.length_nil] at this ⊢; omega)
        clear hO1
        go_wp2_with (at_builtin; refine Rec.wpList_app int40 rfl _ _ rfl w1.heap.size _ O [] O1 HO1E.out rfl HO.out a1 k1 rfl (Q3.out.below HB.out) Q4.out HC1.out HB.out.size ?_)
        rintro vo1 w3 ho1 _ hb1
        have HO1 := Lib.hid ho1
        have HB1 := Lib.hid (HB.out.trans hb1)
        clear ho1 hb1
        go_wp2_with (at_builtin; refine Rec.wpList_app int40 rfl _ _ rfl w1.heap.size vo1 O1 B R HO2E.out rfl HO1.out a2 k2 rfl (P3.out.below HB1.out) (fun e => ⟨by first | exact (P4.out e).1 | rfl, (P4.out e).2⟩) HC2.out HB1.out.size ?_)
        rintro vo2 w4 ho2 _ hb2
        have HO2 := Lib.hid ho2
        have HB2 := Lib.hid (HB1.out.trans hb2)
        clear ho2 hb2
        go_wp2
        go_ret
        exact ⟨vo2, rfl, by rw [← HRR.out]; exact HO2.out.base HR.out.size, HR.out.trans (HB2.out.mono HR.out.size)⟩
      | cons x A =>
        cases B with
        | nil =>
          obtain ⟨a1, k1, rfl, q1, q2, q3, q4⟩ := SA.out
          obtain ⟨a2, k2, rfl, p1, p2, p3, p4⟩ := SB.out
          simp only [List.length_nil, List.length_cons]
          have Q3 := Lib.hid q3
          have P3 := Lib.hid p3
          have Q4 := Lib.hid q4
          have P4 := Lib.hid p4
          clear q1 q2 q3 q4 p1 p2 p3 p4
          obtain ⟨O1, hO1⟩ : ∃ O1, O1 = O ++ (x :: A) := ⟨_, rfl⟩
          have HO1E := Lib.hid hO1
          have HO1L := Lib.hid (show O1.length = O.length + ((x :: A) : List Int).length by rw [hO1, List.length_append])
          have HO2E := Lib.hid (show R = O1 ++ [] by rw [hO1, ← HMR.out]; simp)
          have HC1 := Lib.hid (show O.length + ((x :: A) : List Int).length ≤ 100000000 by have := HL.out; simp only [List.length_nil, List.length_cons] at this ⊢; omega)
          have HC2 := Lib.hid (show O1.length + ([] : List Int).length ≤ 100000000 by have := HL.out; rw [HO1L.out]; simp only [List.length_nil, List.length_cons] at this ⊢; omega)
          clear hO1
          go_wp2_with (at_builtin; refine Rec.wpList_app int40 rfl _ _ rfl w1.heap.size _ O (x :: A) O1 HO1E.out rfl HO.out a1 k1 rfl (Q3.out.below HB.out) Q4.out HC1.out HB.out.size ?_)
          rintro vo1 w3 ho1 _ hb1
          have HO1 := Lib.hid ho1
          have HB1 := Lib.hid (HB.out.trans hb1)
          clear ho1 hb1
          go_wp2_with (at_builtin; refine Rec.wpList_app int40 rfl _ _ rfl w1.heap.size vo1 O1 [] R HO2E.out rfl HO1.out a2 k2 rfl (P3.out.below HB1.out) (fun e => ⟨by first | exact (P4.out e).1 | rfl, (P4.out e).2⟩) HC2.out HB1.out.size ?_)
          rintro vo2 w4 ho2 _ hb2
          have HO2 := Lib.hid ho2
          have HB2 := Lib.hid (HB1.out.trans hb2)
          clear ho2 hb2
          go_wp2
          go_ret
          exact ⟨vo2, rfl, by rw [← HRR.out]; exact HO2.out.base HR.out.size, HR.out.trans (HB2.out.mono HR.out.size)⟩
        | cons y B =>
          obtain ⟨b1, o1, k1, rfl, q1, q2, _, q3, q4, q5⟩ := SA.out.cons
          obtain ⟨b2, o2, k2, rfl, p1, p2, _, p3, p4, p5⟩ := SB.out.cons
          have AT1 := Lib.hid q4
          have AT2 := Lib.hid p4
          have e1 := int_cell0 (q4.below HB.out)
          have e2 := int_cell0 (p4.below HB.out)
          have e3 : b1 < wr.heap.size := Nat.lt_of_lt_of_le q3 HB.out.size
          have e4 : b2 < wr.heap.size := Nat.lt_of_lt_of_le p3 HB.out.size
          have Q5 := Lib.hid q5
          have P5 := Lib.hid p5
          clear q3 p3 q4 p4 q5 p5
          unfold maxLen at q2 p2
          have HCC := Lib.hid (fun X => HCL1.out _ (HB.out.trans ((ov_below wr X).mono HB.out.size)) x y (HSA.out x (by simp)) (HSB.out y (by simp)))
          go_wp2_with fail
          refine wp_region_over (by kernel_rfl) (by kernel_rfl) ?_
          repeat (go_big_quiet_step ((go_at_call 38; exact Calls.over_of (HCC.out _))))
          refine wpQuiet_nil ?_
          rintro _ ⟨x0, rfl⟩
          have HBz := Lib.hid (HB.out.trans ((ov_below wr x0).mono HB.out.size))
          have HOz := Lib.hid (HO.out.below (ov_below wr x0))
          have HLE := Lib.hid (show leK K x y = decide (K x y ≤ 0) from rfl)
          clear e1 e2 e3 e4
          generalize ov wr x0 = wz at *
          generalize K x y = c at *
          by_cases hle : c ≤ 0
          · go_wp2_with fail
            refine wp_region_specs2 [[], [], [1], [2], [3], [0, 4], [], [6], [5], [7]] [some 47, some 48, some 49, some 50, some 51, some 52, some 53, some 54, some 7, some 5] [0, 1, 2, 3, 4, 5, 6, 7, 8, 9]
              (fun w => Below w1.heap.size w1 w)
              (fun i w => i = 4 ∨ i = 5 → intR.row 3 w1.heap.size O u7 w)
              (appN w1.heap.size u7)
              (fun ix_ => [eqv u7, eqv (.slice (some ⟨b1, o1, none⟩) (A.length + 1) (k1 + 1)), eqv (.pointer (some ⟨b1, o1, none⟩)), eqv (.int .i64 x), oneN u7 x, intR.row 3 w1.heap.size (O ++ [x]), eqv (.slice (some ⟨b1, o1, none⟩) (A.length + 1) (k1 + 1)), (fun v _ => intR.Sl w1 v A), intR.row 3 w1.heap.size (O ++ [x]), (fun v _ => intR.Sl w1 v A)].getD ix_ anyv) (by kernel_rfl) (by kernel_rfl) (below_drewN HBz.out 1) (fun i _ => HOz.out.below (below_drewN (Below.refl _ _) 1)) (fun j w w' hg hr => appN_below rfl hg hr) ?_ ?_ ?_ ?_
            · intro i j w w' hij hd hp hr hi
              by_cases hj : j = 5
              · subst hj; rcases hi with rfl | rfl
                · exact absurd (by decide) hd
                · exact absurd rfl hij
              · unfold appN at hr; rw [if_neg hj] at hr; exact (hp hi).below hr
            · intro i j v w w' hij hd h hr
              have hrow : (j ≠ 5 → ∀ base xs, intR.row 3 base xs v w → intR.row 3 base xs v w') := fun hj base xs h => by unfold appN at hr; rw [if_neg hj] at hr; exact h.below hr
              match i, hij, hd, h with
              | 0, _, _, h => exact h
              | 1, _, _, h => exact h
              | 2, _, _, h => exact h
              | 3, _, _, h => exact h
              | 4, _, _, h => exact oneN_st h hr
              | 5, hij, _, h => exact hrow (fun e => hij e.symm) _ _ h
              | 6, _, _, h => exact h
              | 7, _, _, h => exact h
              | 8, _, hd, h => exact hrow (fun e => hd (by rw [e]; decide)) _ _ h
              | 9, _, _, h => exact h
              | i + 10, _, _, h => exact trivial
            · refine ⟨?_, ?_, ?_, ?_, ?_, ?_, ?_, ?_, ?_, ?_, trivial⟩
              · intro vs wq hG hP hd
                simp only [putL]
                clear hd hP 
                go_wp2
                exact ⟨rfl, rfl, appN_b (by decide) (Below.refl _ _), rfl⟩
              · intro vs wq hG hP hd
                simp only [putL]
                clear hd hP 
                go_wp2
                exact ⟨rfl, rfl, appN_b (by decide) (Below.refl _ _), rfl⟩
              · intro vs wq hG hP hd
                have h1 := hd.get 1 rfl
                change vs 1 = _ at h1
                simp only [putL, h1]
                clear hd hP h1
                go_wp2
                exact ⟨rfl, rfl, appN_b (by decide) (Below.refl _ _), rfl⟩
              · intro vs wq hG hP hd
                have h2 := hd.get 2 rfl
                change vs 2 = _ at h2
                have f1 := int_cell0 (AT1.out.below hG)
                simp only [putL, h2]
                clear hd hP h2
                go_wp2
                exact ⟨rfl, rfl, appN_b (by decide) (Below.refl _ _), rfl⟩
              · intro vs wq hG hP hd
                have h3 := hd.get 3 rfl
                change vs 3 = _ at h3
                simp only [putL, h3]
                have hne := Lib.hid (ownN_ne (hP (.inl rfl)))
                clear hd hP h3
                go_wp2
                exact ⟨rfl, rfl, appN_b (by decide) ((Below.refl _ _).alloc (Nat.le_refl _) _), _, rfl, Rec.In.one wq 3 x trivial, hne.out⟩
              · intro vs wq hG hP hd
                have h0 := hd.get 0 rfl
                change vs 0 = _ at h0
                obtain ⟨g4, h4, h4i, h4n⟩ := hd.get 4 rfl
                simp only [putL, h0, h4]
                have hOq := Lib.hid (hP (.inr rfl))
                have h4I := Lib.hid h4i
                have hGs := Lib.hid hG.size
                clear hd hP h4i h4n h0 h4
                go_wp2_with (at_builtin; refine Rec.wpList_app int40 rfl _ _ rfl w1.heap.size u7 O [x] (O ++ [x]) rfl rfl hOq.out (some ⟨g4, 0, none⟩) 1 rfl h4I.out (fun e => by cases e) (by have := HL.out; simp only [List.length_cons, List.length_nil] at this ⊢; omega) hGs.out ?_)
                intro v' w' h1 h2 h3
                exact ⟨rfl, rfl, by unfold appN; simp; exact ⟨h2, h3⟩, h1⟩
              · intro vs wq hG hP hd
                simp only [putL]
                clear hd hP 
                go_wp2
                exact ⟨rfl, rfl, appN_b (by decide) (Below.refl _ _), rfl⟩
              · intro vs wq hG hP hd
                have h6 := hd.get 6 rfl
                change vs 6 = _ at h6
                simp only [putL, h6]
                clear hd hP h6
                have HQ := Lib.hid Q5.out
                go_wp2
                · exact ⟨rfl, rfl, appN_b (by decide) (Below.refl _ _), HQ.out.zero (by first | rfl | omega)⟩
                · exact ⟨rfl, rfl, appN_b (by decide) (Below.refl _ _), HQ.out⟩
              · intro vs wq hG hP hd
                have h5 := hd.get 5 rfl
                simp only [putL]
                clear hd hP
                go_wp2
                exact ⟨rfl, rfl, appN_b (by decide) (Below.refl _ _), h5⟩
              · intro vs wq hG hP hd
                have h7 := hd.get 7 rfl
                simp only [putL]
                clear hd hP
                go_wp2
                exact ⟨rfl, rfl, appN_b (by decide) (Below.refl _ _), h7⟩
            · intro vs wq hG hd
              have h0 := hd.get 0 rfl
              change vs 0 = _ at h0
              have h1 := hd.get 1 rfl
              change vs 1 = _ at h1
              have h2 := hd.get 2 rfl
              change vs 2 = _ at h2
              have h3 := hd.get 3 rfl
              change vs 3 = _ at h3
              have h6 := hd.get 6 rfl
              change vs 6 = _ at h6
              obtain ⟨g4, h4, _, _⟩ := hd.get 4 rfl
              have H8 := Lib.hid (hd.get 8 rfl)
              have H9 := Lib.hid (hd.get 9 rfl)
              have HGq := Lib.hid hG
              simp only [putL, List.getD_cons_zero, List.getD_cons_succ, Act.put, List.setIfInBounds_toArray, List.set_cons_zero, List.set_cons_succ, h0, h1, h2, h3, h4, h6]
              clear hd h0 h1 h2 h3 h4 h6 hG
              generalize vs 5 = v5 at *
              generalize vs 7 = v7 at *
              generalize vs 8 = v8 at *
              generalize vs 9 = v9 at *
              go_wp2
              go_roundg (A.length + (B.length + 1))
              case measure => have := HG.out; simp only [List.length_cons] at this; omega
              case rel => exact ⟨A, y :: B, O ++ [x], H9.out, SB.out, H8.out, by rw [← HMR.out, List.cons_merge_cons, if_pos (by rw [HLE.out]; simpa using hle)]; simp, by have := HL.out; simp only [List.length_append, List.length_cons, List.length_nil] at this ⊢; omega, fun z hz => HSA.out z (by simp [hz]), HSB.out, by simp, HGq.out⟩
          · go_wp2_with fail
            refine wp_region_specs2 [[], [], [1], [2], [3], [0, 4], [], [6], [5], [7]] [some 55, some 56, some 57, some 58, some 59, some 60, some 61, some 62, some 7, some 6] [0, 1, 2, 3, 4, 5, 6, 7, 8, 9]
              (fun w => Below w1.heap.size w1 w)
              (fun i w => i = 4 ∨ i = 5 → intR.row 3 w1.heap.size O u7 w)
              (appN w1.heap.size u7)
              (fun ix_ => [eqv u7, eqv (.slice (some ⟨b2, o2, none⟩) (B.length + 1) (k2 + 1)), eqv (.pointer (some ⟨b2, o2, none⟩)), eqv (.int .i64 y), oneN u7 y, intR.row 3 w1.heap.size (O ++ [y]), eqv (.slice (some ⟨b2, o2, none⟩) (B.length + 1) (k2 + 1)), (fun v _ => intR.Sl w1 v B), intR.row 3 w1.heap.size (O ++ [y]), (fun v _ => intR.Sl w1 v B)].getD ix_ anyv) (by kernel_rfl) (by kernel_rfl) (below_drewN HBz.out 1) (fun i _ => HOz.out.below (below_drewN (Below.refl _ _) 1)) (fun j w w' hg hr => appN_below rfl hg hr) ?_ ?_ ?_ ?_
            · intro i j w w' hij hd hp hr hi
              by_cases hj : j = 5
              · subst hj; rcases hi with rfl | rfl
                · exact absurd (by decide) hd
                · exact absurd rfl hij
              · unfold appN at hr; rw [if_neg hj] at hr; exact (hp hi).below hr
            · intro i j v w w' hij hd h hr
              have hrow : (j ≠ 5 → ∀ base xs, intR.row 3 base xs v w → intR.row 3 base xs v w') := fun hj base xs h => by unfold appN at hr; rw [if_neg hj] at hr; exact h.below hr
              match i, hij, hd, h with
              | 0, _, _, h => exact h
              | 1, _, _, h => exact h
              | 2, _, _, h => exact h
              | 3, _, _, h => exact h
              | 4, _, _, h => exact oneN_st h hr
              | 5, hij, _, h => exact hrow (fun e => hij e.symm) _ _ h
              | 6, _, _, h => exact h
              | 7, _, _, h => exact h
              | 8, _, hd, h => exact hrow (fun e => hd (by rw [e]; decide)) _ _ h
              | 9, _, _, h => exact h
              | i + 10, _, _, h => exact trivial
            · refine ⟨?_, ?_, ?_, ?_, ?_, ?_, ?_, ?_, ?_, ?_, trivial⟩
              · intro vs wq hG hP hd
                simp only [putL]
                clear hd hP 
                go_wp2
                exact ⟨rfl, rfl, appN_b (by decide) (Below.refl _ _), rfl⟩
              · intro vs wq hG hP hd
                simp only [putL]
                clear hd hP 
                go_wp2
                exact ⟨rfl, rfl, appN_b (by decide) (Below.refl _ _), rfl⟩
              · intro vs wq hG hP hd
                have h1 := hd.get 1 rfl
                change vs 1 = _ at h1
                simp only [putL, h1]
                clear hd hP h1
                go_wp2
                exact ⟨rfl, rfl, appN_b (by decide) (Below.refl _ _), rfl⟩
              · intro vs wq hG hP hd
                have h2 := hd.get 2 rfl
                change vs 2 = _ at h2
                have f1 := int_cell0 (AT2.out.below hG)
                simp only [putL, h2]
                clear hd hP h2
                go_wp2
                exact ⟨rfl, rfl, appN_b (by decide) (Below.refl _ _), rfl⟩
              · intro vs wq hG hP hd
                have h3 := hd.get 3 rfl
                change vs 3 = _ at h3
                simp only [putL, h3]
                have hne := Lib.hid (ownN_ne (hP (.inl rfl)))
                clear hd hP h3
                go_wp2
                exact ⟨rfl, rfl, appN_b (by decide) ((Below.refl _ _).alloc (Nat.le_refl _) _), _, rfl, Rec.In.one wq 3 y trivial, hne.out⟩
              · intro vs wq hG hP hd
                have h0 := hd.get 0 rfl
                change vs 0 = _ at h0
                obtain ⟨g4, h4, h4i, h4n⟩ := hd.get 4 rfl
                simp only [putL, h0, h4]
                have hOq := Lib.hid (hP (.inr rfl))
                have h4I := Lib.hid h4i
                have hGs := Lib.hid hG.size
                clear hd hP h4i h4n h0 h4
                go_wp2_with (at_builtin; refine Rec.wpList_app int40 rfl _ _ rfl w1.heap.size u7 O [y] (O ++ [y]) rfl rfl hOq.out (some ⟨g4, 0, none⟩) 1 rfl h4I.out (fun e => by cases e) (by have := HL.out; simp only [List.length_cons, List.length_nil] at this ⊢; omega) hGs.out ?_)
                intro v' w' h1 h2 h3
                exact ⟨rfl, rfl, by unfold appN; simp; exact ⟨h2, h3⟩, h1⟩
              · intro vs wq hG hP hd
                simp only [putL]
                clear hd hP 
                go_wp2
                exact ⟨rfl, rfl, appN_b (by decide) (Below.refl _ _), rfl⟩
              · intro vs wq hG hP hd
                have h6 := hd.get 6 rfl
                change vs 6 = _ at h6
                simp only [putL, h6]
                clear hd hP h6
                have HQ := Lib.hid P5.out
                go_wp2
                · exact ⟨rfl, rfl, appN_b (by decide) (Below.refl _ _), HQ.out.zero (by first | rfl | omega)⟩
                · exact ⟨rfl, rfl, appN_b (by decide) (Below.refl _ _), HQ.out⟩
              · intro vs wq hG hP hd
                have h5 := hd.get 5 rfl
                simp only [putL]
                clear hd hP
                go_wp2
                exact ⟨rfl, rfl, appN_b (by decide) (Below.refl _ _), h5⟩
              · intro vs wq hG hP hd
                have h7 := hd.get 7 rfl
                simp only [putL]
                clear hd hP
                go_wp2
                exact ⟨rfl, rfl, appN_b (by decide) (Below.refl _ _), h7⟩
            · intro vs wq hG hd
              have h0 := hd.get 0 rfl
              change vs 0 = _ at h0
              have h1 := hd.get 1 rfl
              change vs 1 = _ at h1
              have h2 := hd.get 2 rfl
              change vs 2 = _ at h2
              have h3 := hd.get 3 rfl
              change vs 3 = _ at h3
              have h6 := hd.get 6 rfl
              change vs 6 = _ at h6
              obtain ⟨g4, h4, _, _⟩ := hd.get 4 rfl
              have H8 := Lib.hid (hd.get 8 rfl)
              have H9 := Lib.hid (hd.get 9 rfl)
              have HGq := Lib.hid hG
              simp only [putL, List.getD_cons_zero, List.getD_cons_succ, Act.put, List.setIfInBounds_toArray, List.set_cons_zero, List.set_cons_succ, h0, h1, h2, h3, h4, h6]
              clear hd h0 h1 h2 h3 h4 h6 hG
              generalize vs 5 = v5 at *
              generalize vs 7 = v7 at *
              generalize vs 8 = v8 at *
              generalize vs 9 = v9 at *
              go_wp2
              go_roundg (A.length + 1 + B.length)
              case measure => have := HG.out; simp only [List.length_cons] at this; omega
              case rel => exact ⟨x :: A, B, O ++ [y], SA.out, H9.out, H8.out, by rw [← HMR.out, List.cons_merge_cons, if_neg (by rw [HLE.out]; simpa using hle)]; simp, by have := HL.out; simp only [List.length_append, List.length_cons, List.length_nil] at this ⊢; omega, HSA.out, fun z hz => HSB.out z (by simp [hz]), by simp, HGq.out⟩

end Go.Proofs.Ytchbpfkjhilgiaa
