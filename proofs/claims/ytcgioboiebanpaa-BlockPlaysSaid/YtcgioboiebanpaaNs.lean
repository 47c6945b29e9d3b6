/- cut. -/
import Derived.Test.YtcgioboiebanpaaNr
namespace Go.Proofs.Ytcgioboiebanpaa
open Go.RowKit Go.Maps
set_option linter.unusedVariables false

def fstR (x : RV) (n : Nat) : RV := (x.1, (x.2.1.1, n, n), x.2.2)
def sndR (x : RV) (n : Nat) : RV := ((x.1.1, x.1.2.1, wrap64 (x.1.2.2 + n)), (x.2.1.1.map (·.add n), x.2.1.2.1 - n, x.2.1.2.2 - n), x.2.2)
theorem RunAt.key {w : World} {b o : Nat} {x : RV} (h : RunAt w b o x) (h32 : x.1.2.1.length = 32) : fits w ⟨b, o, none⟩ 34 ∧ aggAt w ⟨b, o, none⟩ 34 = keyB x.1.1 x.1.2.1 x.1.2.2 := by
  have hf : fits w ⟨b, o, none⟩ 34 := by
    obtain ⟨h1, c, e, f, h2, h3⟩ := h.f
    exact ⟨h1, c, e, f, h2, by simp only at h3 ⊢; omega⟩
  refine ⟨hf, ?_⟩
  have hb : (Lib.byteCells x.1.2.1).length = 32 := by simp [Lib.byteCells, h32]
  apply Array.ext_getElem?
  intro j
  by_cases hj : j < 34
  · rw [← aggAt_get hf hj, keyB_list, List.getElem?_toArray]
    rcases Nat.lt_or_ge j 1 with h0 | h0
    · have : j = 0 := by omega
      subst this
      rw [Nat.add_zero, h.t]; rfl
    · rcases Nat.lt_or_ge j 33 with h1 | h1
      · have h2 := aggAt_get h.cf (j := j - 1) (by omega)
        simp only at h2
        rw [show o + 1 + (j - 1) = o + j by omega, h.ca] at h2
        rw [h2, idB, List.append_assoc, List.getElem?_append_right (by simp; omega), List.getElem?_append_left (by simp [hb]; omega)]
        simp
      · have : j = 33 := by omega
        subst this
        rw [h.i, List.append_assoc, List.getElem?_append_right (by simp), List.getElem?_append_right (by simp [hb])]
        simp [hb]
  · rw [Array.getElem?_eq_none (by rw [aggAt_size hf]; omega), Array.getElem?_eq_none (by rw [keyB_size, h32]; omega)]
set_option maxHeartbeats 4000000 in
set_option maxRecDepth 100000 in
theorem cut_yes (d i n : Nat) (v : Value) (size live : Int) (xs : List RV) (x : RV) (p : Addr) (w : World) (hxi : xs[i]? = some x) (hlen : xs.length ≤ 100000) (hp : x.2.1.1 = some p) (hcap : x.2.1.2.1 ≤ x.2.1.2.2) (hmax : x.2.1.2.2 ≤ maxLen) (hn0 : 0 < n) (hn : n < x.2.1.2.1)
    (hd : w.heap[d]? = some (.cells #[v, .int .i64 size, .int .i64 live] 66 (0, 0))) (hrow : runR.row 70 (d + 1) xs v w) :
    Calls Try.prog 44 #[.pointer (some ⟨d, 0, none⟩), .int .i64 (i : Int), .int .i64 (n : Int)] w fun e w' => e = .returned (.tuple #[]) ∧ ∃ v', w'.heap[d]? = some (.cells #[v', .int .i64 size, .int .i64 live] 66 (0, 0)) ∧
      runR.row 70 (d + 1) (xs.take i ++ fstR x n :: sndR x n :: xs.drop (i + 1)) v' w' ∧ Step d v v' w w' := by
  have HI := Lib.hid (List.getElem?_eq_some_iff.1 hxi).1
  have hne : xs ≠ [] := fun h => by rw [h] at hxi; simp at hxi
  obtain ⟨g, cap0, rfl, hcap0, hcm0, hgd, hgl⟩ := hrow.some hne
  have HX32 := Lib.hid (show x.1.2.1.length = 32 from hrow.1 x (List.mem_of_getElem? hxi))
  have hat := hrow.at hxi
  have HDB := Lib.hid hd
  have HROW := Lib.hid hrow
  have HLEN := Lib.hid hlen
  have HXI := Lib.hid hxi
  have HP := Lib.hid (show p.block < w.heap.size → True from fun _ => trivial)
  have hc0 : w.cell? ⟨d, 0, none⟩ = some (.slice (some ⟨g, 0, none⟩) xs.length cap0) := by rw [Lib.cell_of_heap hd]; rfl
  have e1 : fits w ⟨g, i * 36, none⟩ 36 := hat.1
  have e2 : aggAt w ⟨g, i * 36, none⟩ 36 = runB x := by
    have h3 : (aggAt w ⟨g, i * 36, none⟩ 36) = (runR.enc x).toArray := hat.2
    rw [h3]; rfl
  have i1 : (i : Int) < xs.length := by have := HI.out; omega
  have q7 : g < w.heap.size := hgl
  have HG := Lib.hid (show d + 1 ≤ g ∧ g < w.heap.size ∧ d < w.heap.size from ⟨hgd, hgl, (Array.getElem?_eq_some_iff.1 hd).1⟩)
  clear hat hxi hne hrow hd hcap0 hcm0 hgd hgl hlen
  go_enter Try.func44, Try.ntmps44
  go_upto_region 1 with (refine wpList_store_blk 70 36 (by kernel_rfl) rfl _ _ rfl w.heap.size (runB x) (runB_size x HX32.out) (run_one x) rfl rfl _ (MapKept.heap_alloc w _).1 (by rfl) ?_)
  intro W s1 s2 s3
  have hW1 : Below w.heap.size w W := ((Below.refl w.heap.size w).alloc (Nat.le_refl _) _).trans ⟨s3.os, s3.tape, s3.output, s3.size, fun j hj => s3.block j (by simp; omega) (by simp; omega)⟩
  have HW1 := Lib.hid hW1
  have HBX := Lib.hid (RunAt.of HX32.out (blk_ld s1 (runB_size x HX32.out)).1 (blk_ld s1 (runB_size x HX32.out)).2)
  have HDB1 := Lib.hid ((hW1.block d HG.out.2.2).trans HDB.out)
  have HROW1 := Lib.hid (HROW.out.below hW1)
  clear s1 s2 s3 hW1 hc0 e1 e2 q7
  obtain ⟨b6, hb6⟩ : ∃ b, b = w.heap.size := ⟨_, rfl⟩
  rw [← hb6] at HBX ⊢
  have HB6 := Lib.hid hb6
  clear hb6
  obtain ⟨⟨xt, xc, xi⟩, ⟨xp, ln, cap⟩, xd⟩ := x
  simp only at hp hcap hmax hn
  subst hp
  have HCAP := Lib.hid hcap
  have HMAX := Lib.hid hmax
  have HN := Lib.hid hn
  have HN0 := Lib.hid hn0
  have HS1 := Lib.hid (fun wx => slice60_to (p := p) (l := ln) (c := cap) n hn0 hn hcap wx)
  have HS2 := Lib.hid (fun wx => slice60_from (p := p) (l := ln) (c := cap) n hn hcap wx)
  have f1 := HBX.out.r
  rw [Nat.zero_add] at f1
  have n1 : ¬ (n : Int) ≤ 0 := by omega
  have n2 : decide ((n : Int) ≤ 0) = false := decide_eq_false n1
  have n3 : ¬ (ln : Int) ≤ (n : Int) := by omega
  have n4 : decide ((ln : Int) ≤ (n : Int)) = false := decide_eq_false n3
  clear hcap hmax hn hn0
  obtain ⟨x, hx⟩ : ∃ x : RV, x = ((xt, xc, xi), (some p, ln, cap), xd) := ⟨_, rfl⟩
  rw [← hx] at HBX HXI HX32
  have HXE := Lib.hid hx
  clear hx
  have HF1 := Lib.hid (show keyB xt xc xi ++ #[.slice (some p) n n, .bool xd] = runB (fstR x n) by rw [HXE.out]; rfl)
  have HF2 := Lib.hid (show keyB xt xc (wrap64 (xi + n)) ++ #[.slice (some (p.add n)) (ln - n) (cap - n), .bool xd] = runB (sndR x n) by rw [HXE.out]; rfl)
  have HXC := Lib.hid (show xc.length = 32 by have := HX32.out; rw [HXE.out] at this; exact this)
  go_upto_region 2 with fail
  clear f1 n1 n2 n3 n4
  refine wp_region_specs2 [[], [0], [], [2], [], [], [3, 4, 5], [], [7], [1, 6, 8], [], [9, 10]] [some 25, some 26, some 27, some 28, some 29, some 30, some 31, some 32, some 33, some 34, some 7, none] [0, 1, 2, 3, 4, 5, 6, 7, 8, 9, 10, 11]
    (fun w_ => Below W.heap.size W w_) (fun i w_ => i = 10 → ∀ k, ¬ N70 W.heap.size w_ k) (rb70 W.heap.size 10 11)
    (fun ix_ => [eqv (.pointer (some ⟨b6, 0, none⟩)), eqv (.agg (keyB xt xc xi)), eqv (.pointer (some ⟨b6, 34, none⟩)), eqv (.slice (some p) ln cap), eqv (.int .i64 (n : Int)), eqv (.int .i64 (n : Int)), eqv (.slice (some p) n n), eqv (.pointer (some ⟨b6, 35, none⟩)), eqv (.bool xd), eqv (.agg (runB (fstR x n))), bx70 W.heap.size, lit70 W.heap.size (fstR x n)].getD ix_ anyv) (by kernel_rfl) (by kernel_rfl) (below_drewN (Below.refl _ _) 1) (fun _ _ k => n70_new (W := W) k) (fun j w_ w_' hg hr => hg.trans hr.b) ?_ ?_ ?_ ?_
  · intro i j w_ w_' hij hd hp hr hi k hk
    exact hp hi k ((hr.n (fun e => hij (hi.trans e.symm)) k).1 hk)
  · intro i j v w_ w_' hij hd h hr
    match i, hij, hd, h with
    | 0, _, _, h => exact h
    | 1, _, _, h => exact h
    | 2, _, _, h => exact h
    | 3, _, _, h => exact h
    | 4, _, _, h => exact h
    | 5, _, _, h => exact h
    | 6, _, _, h => exact h
    | 7, _, _, h => exact h
    | 8, _, _, h => exact h
    | 9, _, _, h => exact h
    | 10, hij, _, h => exact bx70_st (fun e => hij e.symm) h hr
    | 11, hij, _, h => exact lit70_st (v := v) (fun e => hij e.symm) h hr
    | i + 12, _, _, h => exact trivial
  · refine ⟨?_, ?_, ?_, ?_, ?_, ?_, ?_, ?_, ?_, ?_, ?_, ?_, trivial⟩
    · intro vs wq hG hP hd
      simp only [putL]
      clear hd hP hG 
      go_wp2
      exact ⟨rfl, rfl, rb70_r (by decide), rfl⟩
    · intro vs wq hG hP hd
      have h0 := hd.get 0 rfl
      change vs 0 = _ at h0
      obtain ⟨f1, f2⟩ := (HBX.out.below hG).key HX32.out
      rw [HXE.out] at f2
      simp only [putL, h0]
      clear hd hP hG h0
      go_wp2
      exact ⟨rfl, rfl, rb70_r (by decide), rfl⟩
    · intro vs wq hG hP hd
      simp only [putL]
      clear hd hP hG 
      go_wp2
      exact ⟨rfl, rfl, rb70_r (by decide), rfl⟩
    · intro vs wq hG hP hd
      have h2 := hd.get 2 rfl
      change vs 2 = _ at h2
      have f1 := (HBX.out.below hG).r
      rw [Nat.zero_add, HXE.out] at f1
      simp only [putL, h2]
      clear hd hP hG h2
      go_wp2
      exact ⟨rfl, rfl, rb70_r (by decide), rfl⟩
    · intro vs wq hG hP hd
      simp only [putL]
      clear hd hP hG 
      go_wp2
      exact ⟨rfl, rfl, rb70_r (by decide), rfl⟩
    · intro vs wq hG hP hd
      simp only [putL]
      clear hd hP hG 
      go_wp2
      exact ⟨rfl, rfl, rb70_r (by decide), rfl⟩
    · intro vs wq hG hP hd
      have h3 := hd.get 3 rfl
      change vs 3 = _ at h3
      have h4 := hd.get 4 rfl
      change vs 4 = _ at h4
      have h5 := hd.get 5 rfl
      change vs 5 = _ at h5
      have f1 := HS1.out
      simp only [putL, h3, h4, h5]
      clear hd hP hG h3 h4 h5
      go_wp2
      exact ⟨rfl, rfl, rb70_r (by decide), rfl⟩
    · intro vs wq hG hP hd
      simp only [putL]
      clear hd hP hG 
      go_wp2
      exact ⟨rfl, rfl, rb70_r (by decide), rfl⟩
    · intro vs wq hG hP hd
      have h7 := hd.get 7 rfl
      change vs 7 = _ at h7
      have f1 := (HBX.out.below hG).d
      rw [Nat.zero_add, HXE.out] at f1
      simp only [putL, h7]
      clear hd hP hG h7
      go_wp2
      exact ⟨rfl, rfl, rb70_r (by decide), rfl⟩
    · intro vs wq hG hP hd
      have h1 := hd.get 1 rfl
      change vs 1 = _ at h1
      have h6 := hd.get 6 rfl
      change vs 6 = _ at h6
      have h8 := hd.get 8 rfl
      change vs 8 = _ at h8
      have f1 := keyOk_mk xt xc xi HXC.out
      simp only [putL, h1, h6, h8]
      clear hd hP hG h1 h6 h8
      go_wp2
      exact ⟨rfl, rfl, rb70_r (by decide), congrArg Value.agg HF1.out⟩
    · intro vs wq hG hP hd
      simp only [putL]
      have HGS := Lib.hid hG.size
      have HP9 := Lib.hid (hP rfl)
      clear hd hP hG 
      go_wp2
      exact ⟨rfl, rfl, rb70_a HGS.out _ (by rfl), bx70_a HGS.out _ (by rfl) HP9.out⟩
    · intro vs wq hG hP hd
      have h9 := hd.get 9 rfl
      change vs 9 = _ at h9
      obtain ⟨g9, h10, hN9⟩ := hd.get 10 rfl
      simp only [putL, h9, h10]
      have H9 := Lib.hid ((hN9 g9).2 rfl)
      obtain ⟨_, c9, h9h, h9s⟩ := (hN9 g9).2 rfl
      have H9H := Lib.hid h9h
      have H9S := Lib.hid h9s
      clear hd hP hG hN9 h9h h9s h9 h10
      go_wp2_with (refine wpList_store_blk 70 36 (by kernel_rfl) rfl _ _ rfl g9 (runB (fstR x n)) (runB_size _ HX32.out) (run_one _) rfl rfl c9 H9H.out H9S.out ?_)
      intro w2 s1 s2 s3
      have HRB := Lib.hid (rb70_s (x := fstR x n) (A := 10) (S := 11) (by decide) HX32.out H9.out s1 s2 s3)
      have HS1 := Lib.hid s1
      clear s1 s2 s3
      go_wp2
      exact ⟨rfl, rfl, HRB.out, g9, H9.out.1, HS1.out⟩
  · intro vs wz hG hd
    have h0 := hd.get 0 rfl
    change vs 0 = _ at h0
    have h1 := hd.get 1 rfl
    change vs 1 = _ at h1
    have h2 := hd.get 2 rfl
    change vs 2 = _ at h2
    have h3 := hd.get 3 rfl
    change vs 3 = _ at h3
    have h4 := hd.get 4 rfl
    change vs 4 = _ at h4
    have h5 := hd.get 5 rfl
    change vs 5 = _ at h5
    have h6 := hd.get 6 rfl
    change vs 6 = _ at h6
    have h7 := hd.get 7 rfl
    change vs 7 = _ at h7
    have h8 := hd.get 8 rfl
    change vs 8 = _ at h8
    have h9 := hd.get 9 rfl
    change vs 9 = _ at h9
    obtain ⟨g9, h10, hN9⟩ := hd.get 10 rfl
    have hl9 := hd.get 11 rfl; change lit70 W.heap.size (fstR x n) (vs 11) wz at hl9
    have HZ := Lib.hid hG
    have HL := Lib.hid (lit70_is (x := fstR x n) HX32.out hl9 hN9)
    simp only [putL, List.getD_cons_zero, List.getD_cons_succ, Act.put, List.setIfInBounds_toArray, List.set_cons_zero, List.set_cons_succ, h0, h1, h2, h3, h4, h5, h6, h7, h8, h9, h10]
    clear hd hG hN9 hl9 h0 h1 h2 h3 h4 h5 h6 h7 h8 h9 h10
    generalize wz = W2 at *
    generalize g9 = g7 at *
    have HL7 := HL
    have HZ2 := HZ
    clear HL HZ
    have HBX2 := Lib.hid (HBX.out.below HZ2.out)
    go_upto_region 3 with fail
    refine wp_region_specs2 [[], [0], [], [1, 2], [], [4], [], [5, 6], [], [8], [3, 7, 9], [], [10, 11]] [some 35, some 36, some 37, some 38, some 39, some 40, some 41, some 42, some 43, some 44, some 45, some 8, none] [0, 1, 2, 3, 4, 5, 6, 7, 8, 9, 10, 11, 12]
      (fun w_ => Below W2.heap.size W2 w_) (fun i w_ => i = 11 → ∀ k, ¬ N70 W2.heap.size w_ k) (rb70 W2.heap.size 11 12)
      (fun ix_ => [eqv (.pointer (some ⟨b6, 0, none⟩)), eqv (.agg (keyB xt xc xi)), eqv (.int .i64 (n : Int)), eqv (.agg (keyB xt xc (wrap64 (xi + n)))), eqv (.pointer (some ⟨b6, 34, none⟩)), eqv (.slice (some p) ln cap), eqv (.int .i64 (n : Int)), eqv (.slice (some (p.add n)) (ln - n) (cap - n)), eqv (.pointer (some ⟨b6, 35, none⟩)), eqv (.bool xd), eqv (.agg (runB (sndR x n))), bx70 W2.heap.size, lit70 W2.heap.size (sndR x n)].getD ix_ anyv) (by kernel_rfl) (by kernel_rfl) (below_drewN (Below.refl _ _) 1) (fun _ _ k => n70_new (W := W2) k) (fun j w_ w_' hg hr => hg.trans hr.b) ?_ ?_ ?_ ?_
    · intro i j w_ w_' hij hd hp hr hi k hk
      exact hp hi k ((hr.n (fun e => hij (hi.trans e.symm)) k).1 hk)
    · intro i j v w_ w_' hij hd h hr
      match i, hij, hd, h with
      | 0, _, _, h => exact h
      | 1, _, _, h => exact h
      | 2, _, _, h => exact h
      | 3, _, _, h => exact h
      | 4, _, _, h => exact h
      | 5, _, _, h => exact h
      | 6, _, _, h => exact h
      | 7, _, _, h => exact h
      | 8, _, _, h => exact h
      | 9, _, _, h => exact h
      | 10, _, _, h => exact h
      | 11, hij, _, h => exact bx70_st (fun e => hij e.symm) h hr
      | 12, hij, _, h => exact lit70_st (v := v) (fun e => hij e.symm) h hr
      | i + 13, _, _, h => exact trivial
    · refine ⟨?_, ?_, ?_, ?_, ?_, ?_, ?_, ?_, ?_, ?_, ?_, ?_, ?_, trivial⟩
      · intro vs wq hG hP hd
        simp only [putL]
        clear hd hP hG 
        go_wp2
        exact ⟨rfl, rfl, rb70_r (by decide), rfl⟩
      · intro vs wq hG hP hd
        have h0 := hd.get 0 rfl
        change vs 0 = _ at h0
        obtain ⟨f1, f2⟩ := (HBX2.out.below hG).key HX32.out
        rw [HXE.out] at f2
        simp only [putL, h0]
        clear hd hP hG h0
        go_wp2
        exact ⟨rfl, rfl, rb70_r (by decide), rfl⟩
      · intro vs wq hG hP hd
        simp only [putL]
        clear hd hP hG 
        go_wp2
        exact ⟨rfl, rfl, rb70_r (by decide), rfl⟩
      · intro vs wq hG hP hd
        have h1 := hd.get 1 rfl
        change vs 1 = _ at h1
        have h2 := hd.get 2 rfl
        change vs 2 = _ at h2
        simp only [putL, h1, h2]
        have HGQ := Lib.hid hG
        clear hd hP hG h1 h2
        go_wp2_with fail
        refine (later_new xt xc xi n HXC.out wq).mono ?_
        rintro e w8 ⟨rfl, hb8, hn8⟩
        have HRB := Lib.hid (rb70_c (base := W2.heap.size) (A := 11) (S := 12) (j := 3) (by decide) HGQ.out.size hb8 hn8)
        clear hb8 hn8
        go_wp2
        exact ⟨rfl, rfl, HRB.out, rfl⟩
      · intro vs wq hG hP hd
        simp only [putL]
        clear hd hP hG 
        go_wp2
        exact ⟨rfl, rfl, rb70_r (by decide), rfl⟩
      · intro vs wq hG hP hd
        have h4 := hd.get 4 rfl
        change vs 4 = _ at h4
        have f1 := (HBX2.out.below hG).r
        rw [Nat.zero_add, HXE.out] at f1
        simp only [putL, h4]
        clear hd hP hG h4
        go_wp2
        exact ⟨rfl, rfl, rb70_r (by decide), rfl⟩
      · intro vs wq hG hP hd
        simp only [putL]
        clear hd hP hG 
        go_wp2
        exact ⟨rfl, rfl, rb70_r (by decide), rfl⟩
      · intro vs wq hG hP hd
        have h5 := hd.get 5 rfl
        change vs 5 = _ at h5
        have h6 := hd.get 6 rfl
        change vs 6 = _ at h6
        have f1 := HS2.out
        simp only [putL, h5, h6]
        clear hd hP hG h5 h6
        go_wp2
        exact ⟨rfl, rfl, rb70_r (by decide), rfl⟩
      · intro vs wq hG hP hd
        simp only [putL]
        clear hd hP hG 
        go_wp2
        exact ⟨rfl, rfl, rb70_r (by decide), rfl⟩
      · intro vs wq hG hP hd
        have h8 := hd.get 8 rfl
        change vs 8 = _ at h8
        have f1 := (HBX2.out.below hG).d
        rw [Nat.zero_add, HXE.out] at f1
        simp only [putL, h8]
        clear hd hP hG h8
        go_wp2
        exact ⟨rfl, rfl, rb70_r (by decide), rfl⟩
      · intro vs wq hG hP hd
        have h3 := hd.get 3 rfl
        change vs 3 = _ at h3
        have h7 := hd.get 7 rfl
        change vs 7 = _ at h7
        have h9 := hd.get 9 rfl
        change vs 9 = _ at h9
        have f1 := keyOk_mk xt xc (wrap64 (xi + n)) HXC.out
        simp only [putL, h3, h7, h9]
        clear hd hP hG h3 h7 h9
        go_wp2
        exact ⟨rfl, rfl, rb70_r (by decide), congrArg Value.agg HF2.out⟩
      · intro vs wq hG hP hd
        simp only [putL]
        have HGS := Lib.hid hG.size
        have HP9 := Lib.hid (hP rfl)
        clear hd hP hG 
        go_wp2
        exact ⟨rfl, rfl, rb70_a HGS.out _ (by rfl), bx70_a HGS.out _ (by rfl) HP9.out⟩
      · intro vs wq hG hP hd
        have h10 := hd.get 10 rfl
        change vs 10 = _ at h10
        obtain ⟨g9, h11, hN9⟩ := hd.get 11 rfl
        simp only [putL, h10, h11]
        have H9 := Lib.hid ((hN9 g9).2 rfl)
        obtain ⟨_, c9, h9h, h9s⟩ := (hN9 g9).2 rfl
        have H9H := Lib.hid h9h
        have H9S := Lib.hid h9s
        clear hd hP hG hN9 h9h h9s h10 h11
        go_wp2_with (refine wpList_store_blk 70 36 (by kernel_rfl) rfl _ _ rfl g9 (runB (sndR x n)) (runB_size _ HX32.out) (run_one _) rfl rfl c9 H9H.out H9S.out ?_)
        intro w2 s1 s2 s3
        have HRB := Lib.hid (rb70_s (x := sndR x n) (A := 11) (S := 12) (by decide) HX32.out H9.out s1 s2 s3)
        have HS1 := Lib.hid s1
        clear s1 s2 s3
        go_wp2
        exact ⟨rfl, rfl, HRB.out, g9, H9.out.1, HS1.out⟩
    · intro vs wz hG hd
      have h0 := hd.get 0 rfl
      change vs 0 = _ at h0
      have h1 := hd.get 1 rfl
      change vs 1 = _ at h1
      have h2 := hd.get 2 rfl
      change vs 2 = _ at h2
      have h3 := hd.get 3 rfl
      change vs 3 = _ at h3
      have h4 := hd.get 4 rfl
      change vs 4 = _ at h4
      have h5 := hd.get 5 rfl
      change vs 5 = _ at h5
      have h6 := hd.get 6 rfl
      change vs 6 = _ at h6
      have h7 := hd.get 7 rfl
      change vs 7 = _ at h7
      have h8 := hd.get 8 rfl
      change vs 8 = _ at h8
      have h9 := hd.get 9 rfl
      change vs 9 = _ at h9
      have h10 := hd.get 10 rfl
      change vs 10 = _ at h10
      obtain ⟨g9, h11, hN9⟩ := hd.get 11 rfl
      have hl9 := hd.get 12 rfl; change lit70 W2.heap.size (sndR x n) (vs 12) wz at hl9
      have HZ := Lib.hid hG
      have HL := Lib.hid (lit70_is (x := sndR x n) HX32.out hl9 hN9)
      simp only [putL, List.getD_cons_zero, List.getD_cons_succ, Act.put, List.setIfInBounds_toArray, List.set_cons_zero, List.set_cons_succ, h0, h1, h2, h3, h4, h5, h6, h7, h8, h9, h10, h11]
      clear hd hG hN9 hl9 h0 h1 h2 h3 h4 h5 h6 h7 h8 h9 h10 h11
      generalize wz = W3 at *
      have hz3 := HZ2.out.trans (HZ.out.mono HZ2.out.size)
      have HZ3 := Lib.hid hz3
      have HG7 := Lib.hid ((HZ.out.block g7 (Array.getElem?_eq_some_iff.1 HL7.out.2).1).trans HL7.out.2)
      have HDB3 := Lib.hid ((hz3.block d (Array.getElem?_eq_some_iff.1 HDB1.out).1).trans HDB1.out)
      have HROW3 := Lib.hid (HROW1.out.below hz3)
      have HW3 := Lib.hid (HW1.out.trans (hz3.mono HW1.out.size))
      have HX32b := Lib.hid (show (sndR x n).1.2.1.length = 32 from HX32.out)
      have f1 := (blk_ld HL.out.2 (runB_size _ HX32b.out)).1
      have f2 := (blk_ld HL.out.2 (runB_size _ HX32b.out)).2
      have w1 : IntKind.i64.wrap ((i : Int) + 1) = (i : Int) + 1 := IntWalk.i64_in _ (by have := HI.out; have := HLEN.out; omega)
      have HWW := Lib.hid w1
      clear hz3
      go_wp2_with fail
      refine (put_any d (i + 1) _ size live xs (sndR x n) W3 HX32b.out (by have := HI.out; omega) (by have := HLEN.out; omega) HDB3.out HROW3.out).mono ?_
      rintro e w4 ⟨rfl, v4, hd4, hr4, hs4⟩
      clear f1 f2 w1
      have hle : (xs.take (i + 1) ++ sndR x n :: xs.drop (i + 1)).length = xs.length + 1 := by simp; have := HI.out; omega
      obtain ⟨g4, cap4, hv4, hcap4, hcm4, hgd4, hgl4⟩ := hr4.some (by simp)
      rw [hle] at hv4
      subst hv4
      have hg7n : g7 ≠ d := by have := HL7.out.1; have := HG.out; have := HW1.out.size; omega
      have hg7g : (.slice (some ⟨g, 0, none⟩) xs.length cap0 : Value).ownBlock ≠ some g7 := by have := HL7.out.1; have := HG.out; have := HW1.out.size; simp [Value.ownBlock]; omega
      have HX7 := Lib.hid ((hs4.block g7 (Array.getElem?_eq_some_iff.1 HG7.out).1 hg7n hg7g).trans HG7.out)
      have HG74 := Lib.hid (show g7 ≠ g4 by
        rintro rfl
        rcases hs4.own with h | ⟨k, h, hk⟩
        · exact hg7g h.symm
        · have := (Array.getElem?_eq_some_iff.1 HG7.out).1
          cases h
          simp at hk; omega)
      have HX32a := Lib.hid (show (fstR x n).1.2.1.length = 32 from HX32.out)
      have HT4 := Lib.hid ((Step.of_below (d := d) (v := .slice (some ⟨g, 0, none⟩) xs.length cap0) HW3.out).trans hs4)
      have HD4 := Lib.hid hd4
      have HR4 := Lib.hid hr4
      have HGD4 := Lib.hid hgd4
      have HLE := Lib.hid hle
      have HSET := Lib.hid (show (xs.take (i + 1) ++ sndR x n :: xs.drop (i + 1)).set i (fstR x n) = xs.take i ++ fstR x n :: sndR x n :: xs.drop (i + 1) by
        have hi := HI.out
        rw [List.take_succ_eq_append_getElem hi, List.append_assoc, List.set_append_right _ _ (by simp; omega)]
        simp [Nat.min_eq_left (Nat.le_of_lt hi)])
      clear hle hcap4 hcm4 hgd4 hgl4 hs4 hd4 hr4 hg7n hg7g
      go_upto_region 5 with fail
      have i1 : (i : Int) < (xs.length : Int) + 1 := by have := HI.out; omega
      have hbd := (Below.refl w4.heap.size w4).drew
      have HR5 := Lib.hid (HR4.out.below hbd)
      have HT5 := Lib.hid (HT4.out.trans (Step.of_below hbd))
      have HD5 := Lib.hid ((hbd.block d (Array.getElem?_eq_some_iff.1 HD4.out).1).trans HD4.out)
      have HX5 := Lib.hid ((hbd.block g7 (Array.getElem?_eq_some_iff.1 HX7.out).1).trans HX7.out)
      have hk1 : i < (xs.take (i + 1) ++ sndR x n :: xs.drop (i + 1)).length := by rw [HLE.out]; have := HI.out; omega
      have HK1 := Lib.hid hk1
      obtain ⟨O', hO'⟩ : ∃ O', O' = xs.take (i + 1) ++ sndR x n :: xs.drop (i + 1) := ⟨_, rfl⟩
      rw [← hO'] at HR5 HK1 HSET
      clear hbd hk1 hO'
      refine wp_region_still_tail 7 (by kernel_rfl) (by kernel_rfl) ?_
      change wpStill _ _ w4.drew (fun a' => wpList _ _ _ _ a' w4.drew) _ _
      generalize w4.drew = w5 at *
      have c0 : w5.cell? ⟨d, 0, none⟩ = some (.slice (some ⟨g4, 0, none⟩) (xs.length + 1) cap4) := by rw [Lib.cell_of_heap HD5.out]; rfl
      have f1 := (blk_ld HX5.out (runB_size _ HX32a.out)).1
      have f2 := (blk_ld HX5.out (runB_size _ HX32a.out)).2
      simp only [List.take_succ_cons, List.take_zero, List.drop_succ_cons, List.drop_zero]
      repeat still_step
      refine wpStill_nil ?_
      clear c0 f1 f2
      go_wp2_with (refine wpList_put (R := runR) size70 rfl _ _ rfl (d + 1) g4 (xs.length + 1) cap4 i O' (fstR x n) HX32a.out HK1.out HR5.out rfl (by rw [runB_enc]; rfl) ?_)
      intro w6 b1 b2
      go_wp2
      refine bodyPost_end (results_none rfl _ _ _) rfl ?_
      refine ⟨rfl, _, (b2.block d (Array.getElem?_eq_some_iff.1 HD5.out).1 (by have := HGD4.out; simp; omega)).trans HD5.out, by rw [← HXE.out, ← HSET.out]; exact b1, HT5.out.trans (Step.grown (d := d) (v := .slice (some ⟨g4, 0, none⟩) (xs.length + 1) cap4) b2)⟩
set_option maxHeartbeats 2000000 in
set_option maxRecDepth 100000 in
theorem cut_no (d i : Nat) (n : Int) (v : Value) (size live : Int) (xs : List RV) (x : RV) (w : World) (hxi : xs[i]? = some x) (hlen : xs.length ≤ 100000) (hn : n ≤ 0 ∨ (x.2.1.2.1 : Int) ≤ n)
    (hd : w.heap[d]? = some (.cells #[v, .int .i64 size, .int .i64 live] 66 (0, 0))) (hrow : runR.row 70 (d + 1) xs v w) :
    Calls Try.prog 44 #[.pointer (some ⟨d, 0, none⟩), .int .i64 (i : Int), .int .i64 n] w fun e w' => e = .returned (.tuple #[]) ∧ Below w.heap.size w w' := by
  have HI := Lib.hid (List.getElem?_eq_some_iff.1 hxi).1
  have hne : xs ≠ [] := fun h => by rw [h] at hxi; simp at hxi
  obtain ⟨g, cap0, rfl, hcap0, hcm0, hgd, hgl⟩ := hrow.some hne
  have HX32 := Lib.hid (show x.1.2.1.length = 32 from hrow.1 x (List.mem_of_getElem? hxi))
  have hat := hrow.at hxi
  have HN := Lib.hid hn
  have hc0 : w.cell? ⟨d, 0, none⟩ = some (.slice (some ⟨g, 0, none⟩) xs.length cap0) := by rw [Lib.cell_of_heap hd]; rfl
  have e1 : fits w ⟨g, i * 36, none⟩ 36 := hat.1
  have e2 : aggAt w ⟨g, i * 36, none⟩ 36 = runB x := by
    have h3 : (aggAt w ⟨g, i * 36, none⟩ 36) = (runR.enc x).toArray := hat.2
    rw [h3]; rfl
  have i1 : (i : Int) < xs.length := by have := HI.out; omega
  have q7 : g < w.heap.size := hgl
  clear hat hxi hne hrow hd hcap0 hcm0 hgd hgl hlen hn
  go_enter Try.func44, Try.ntmps44
  go_upto_region 1 with (refine wpList_store_blk 70 36 (by kernel_rfl) rfl _ _ rfl w.heap.size (runB x) (runB_size x HX32.out) (run_one x) rfl rfl _ (MapKept.heap_alloc w _).1 (by rfl) ?_)
  intro W s1 s2 s3
  have HW1 := Lib.hid (show Below w.heap.size w W from ((Below.refl w.heap.size w).alloc (Nat.le_refl _) _).trans ⟨s3.os, s3.tape, s3.output, s3.size, fun j hj => s3.block j (by simp; omega) (by simp; omega)⟩)
  have HBX := Lib.hid (RunAt.of HX32.out (blk_ld s1 (runB_size x HX32.out)).1 (blk_ld s1 (runB_size x HX32.out)).2)
  clear s1 s2 s3 hc0 e1 e2 q7
  obtain ⟨b6, hb6⟩ : ∃ b, b = w.heap.size := ⟨_, rfl⟩
  have f1 := HBX.out.r
  rw [Nat.zero_add, ← hb6] at f1
  rw [← hb6]
  have HB6 := Lib.hid hb6
  clear hb6
  by_cases n1 : n ≤ 0
  · have n2 : decide (n ≤ 0) = true := decide_eq_true n1
    go_wp2
    refine bodyPost_ret (results_none rfl _ _ _) rfl ?_
    exact ⟨rfl, HW1.out⟩
  · have n2 : decide (n ≤ 0) = false := decide_eq_false n1
    have n3 : (x.2.1.2.1 : Int) ≤ n := by rcases HN.out with h | h; exact absurd h n1; exact h
    have n4 : decide ((x.2.1.2.1 : Int) ≤ n) = true := decide_eq_true n3
    go_wp2
    refine bodyPost_ret (results_none rfl _ _ _) rfl ?_
    exact ⟨rfl, HW1.out⟩
end Go.Proofs.Ytcgioboiebanpaa
