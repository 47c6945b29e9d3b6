/- Which of two nodes a log tells first. -/
import Derived.Test.YtmmmimkikakalaaNv
namespace Go.Proofs.Ytmmmimkikakalaa
open Go.RowKit Go.Maps
set_option linter.unusedVariables false

/-- The newer one; of two as new the lesser id. -/
def aheadB (G : List GN) (a b : List UInt8) : Bool := if stampOf G a ≠ stampOf G b then decide (stampOf G b < stampOf G a) else decide (cmpB a b < 0)

set_option maxHeartbeats 4000000 in
set_option maxRecDepth 100000 in
theorem ahead_any (Bg gb mb : Nat) (G : List GN) (a b : List UInt8) (ha : a.length = 32) (hb : b.length = 32) (w : World) (hna : isNode G a = true) (hnb : isNode G b = true) (hBgl : Bg < w.heap.size) (hBg : w.cell? ⟨Bg, 0, none⟩ = some (.pointer (some ⟨gb, 0, none⟩))) (hG : GraphAt w gb mb G) :
    Calls Try.prog 43 #[.agg (idB a), .agg (idB b), .pointer (some ⟨Bg, 0, none⟩)] w fun e w' => e = .returned (.bool (aheadB G a b)) ∧ Below w.heap.size w w' := by
  obtain ⟨W, hW⟩ : ∃ W, W = (w.alloc (.cells (idB a) 24)).alloc (.cells (idB b) 24) := ⟨_, rfl⟩
  obtain ⟨b1, hb1⟩ : ∃ b, b = w.heap.size := ⟨_, rfl⟩
  obtain ⟨b2, hb2⟩ : ∃ b, b = w.heap.size + 1 := ⟨_, rfl⟩
  obtain ⟨hq, a1, a2, c1, c2⟩ := two_boxes w a b ha hb W hW b1 hb1 b2 hb2
  obtain ⟨x1, y1, _, hl1⟩ := look_node hG hna
  obtain ⟨x2, y2, _, hl2⟩ := look_node hG hnb
  have HQ := Lib.hid hq
  have HAB := Lib.hid (And.intro (And.intro a1 a2) (And.intro c1 c2))
  have HA := Lib.hid ha
  have HB := Lib.hid hb
  have g1 : W.cell? ⟨Bg, 0, none⟩ = some (.pointer (some ⟨gb, 0, none⟩)) := (hq.cell (p := ⟨Bg, 0, none⟩) hBgl).trans hBg
  have g2 := (hG.below hq).cell
  have g6 : Bg < W.heap.size := Nat.lt_of_lt_of_le hBgl hq.size
  have g7 : gb < W.heap.size := (hG.below hq).lt
  have g8 := a1.lt
  have g9 := c1.lt
  simp only at g8 g9
  have n1 := fun X => hl1 (ov W X) (hq.trans ((ov_below W X).mono hq.size))
  have n2 := fun X => hl2 (ov W X) (hq.trans ((ov_below W X).mono hq.size))
  have HE := Lib.hid (show aheadB G a b = if stampOf G a ≠ stampOf G b then decide (stampOf G b < stampOf G a) else decide (cmpB a b < 0) from rfl)
  obtain ⟨ab, hab⟩ : ∃ ab, ab = aheadB G a b := ⟨_, rfl⟩
  rw [← hab] at HE ⊢
  generalize stampOf G a = s1 at *
  generalize stampOf G b = s2 at *
  generalize (parsOf G a).length = l1 at *
  generalize (parsOf G b).length = l2 at *
  change ∀ X, Sem.run Try.prog (Instr.lookup 59 (Value.map (some mb)) (Value.agg (idB a)) false) (ov W X) = Result.ok (.agg #[.slice x1 l1 y1, .int .i64 s1]) (ov W X) at n1
  change ∀ X, Sem.run Try.prog (Instr.lookup 59 (Value.map (some mb)) (Value.agg (idB b)) false) (ov W X) = Result.ok (.agg #[.slice x2 l2 y2, .int .i64 s2]) (ov W X) at n2
  clear hq hl1 hl2 hG hBg hab
  go_enter Try.func43, Try.ntmps43
  go_upto_region 1 with fail
  rw [← hW, ← hb2, ← hb1]
  clear hW hb1 hb2
  refine wp_region_over (by kernel_rfl) (by kernel_rfl) ?_
  repeat (go_big_quiet_step (fail))
  refine wpQuiet_nil ?_
  rintro _ ⟨z0, rfl⟩
  have hz := ov_below W z0
  have HZ := Lib.hid (HQ.out.trans (hz.mono HQ.out.size))
  clear a1 a2 c1 c2 g1 g2 g6 g7 g8 g9 n1 n2
  have d1 := fits_below hz HAB.out.1.1
  have d2 := (agg_below hz HAB.out.1.1).trans HAB.out.1.2
  have d3 := fits_below hz HAB.out.2.1
  have d4 := (agg_below hz HAB.out.2.1).trans HAB.out.2.2
  generalize ov W z0 = W2 at *
  clear hz
  by_cases hs : s1 = s2
  · have hne : (s1 != s2) = false := by simp [hs]
    have HS := Lib.hid hs
    have hs' : ¬ s1 ≠ s2 := fun h => h hs
    have hd : decide (s1 ≠ s2) = false := decide_eq_false hs'
    subst hs
    clear hs' hd hne
    go_wp2_with fail
    refine (compare_any a b HA.out HB.out W2).mono ?_
    rintro e w3 ⟨rfl, hb3⟩
    have HB3 := Lib.hid (HZ.out.trans (hb3.mono HZ.out.size))
    have HE2 := Lib.hid (show ab = decide (cmpB a b < 0) by rw [HE.out]; simp)
    obtain ⟨cc, hcc⟩ : ∃ cc, cc = Lib.compareBytes a b := ⟨_, rfl⟩
    have HCC := Lib.hid hcc
    rw [← hcc]
    clear hb3 hcc d1 d2 d3 d4
    go_wp2
    go_ret
    exact ⟨ret_bool (by rw [HE2.out, HCC.out]), HB3.out⟩
  · have HE2 := Lib.hid (show ab = decide (s2 < s1) by rw [HE.out, if_pos hs])
    have hne : (s1 != s2) = true := by simp [hs]
    clear d1 d2 d3 d4
    go_wp2
    go_ret
    exact ⟨ret_bool HE2.out.symm, HZ.out⟩
end Go.Proofs.Ytmmmimkikakalaa

namespace Go.Proofs.Ytmmmimkikakalaa
open Go.RowKit Go.Maps
set_option linter.unusedVariables false

theorem ahead_iff {G : List GN} {a b : List UInt8} : aheadB G a b = true ↔ stampOf G b < stampOf G a ∨ (stampOf G b = stampOf G a ∧ cmpB a b < 0) := by
  unfold aheadB
  split
  · next h => rw [decide_eq_true_eq]; omega
  · next h => rw [decide_eq_true_eq]; omega
theorem ahead_trans {G : List GN} {a b c : List UInt8} (h1 : aheadB G a b = true) (h2 : aheadB G b c = true) : aheadB G a c = true := by
  rw [ahead_iff] at h1 h2 ⊢
  have := (cmpB_trans a b c)
  rcases h1 with h1 | h1 <;> rcases h2 with h2 | h2
  · left; omega
  · left; omega
  · left; omega
  · right; exact ⟨by omega, (this (by omega) (by omega)).2 (.inl h1.2)⟩
theorem ahead_total {G : List GN} {a b : List UInt8} (h : ¬ aheadB G a b = true) : a = b ∨ aheadB G b a = true := by
  rw [ahead_iff] at h ⊢
  have h0 := cmpB_zero a b
  have h1 := cmpB_anti a b
  by_cases he : cmpB a b = 0
  · exact .inl (h0.1 he)
  · right
    by_cases hs : stampOf G a < stampOf G b
    · exact .inl hs
    · right
      refine ⟨by omega, ?_⟩
      have : ¬ (stampOf G b = stampOf G a ∧ cmpB a b < 0) := fun hh => h (.inr hh)
      have : stampOf G b = stampOf G a := by omega
      omega

/-- How many of some have y for a parent. -/
def pcnt (G : List GN) (l : List (List UInt8)) (y : List UInt8) : Nat := l.countP fun z => decide (y ∈ parsOf G z)
/-- How many of y's children, among some, are not told. -/
def unt (G : List GN) (P O : List (List UInt8)) (y : List UInt8) : Nat := P.countP fun z => !decide (z ∈ O) && decide (y ∈ parsOf G z)
theorem pcnt_all (G : List GN) (P : List (List UInt8)) (y : List UInt8) : pcnt G P y = unt G P [] y := by
  unfold pcnt unt
  congr 1
theorem pcnt_snoc (G : List GN) (l : List (List UInt8)) (x y : List UInt8) : pcnt G (l ++ [x]) y = pcnt G l y + (if y ∈ parsOf G x then 1 else 0) := by
  unfold pcnt
  rw [List.countP_append]
  congr 1
  by_cases h : y ∈ parsOf G x <;> simp [h]
theorem pcnt_le (G : List GN) (l : List (List UInt8)) (y : List UInt8) : pcnt G l y ≤ l.length := List.countP_le_length
theorem unt_le (G : List GN) (P O : List (List UInt8)) (y : List UInt8) : unt G P O y ≤ P.length := List.countP_le_length
theorem unt_zero {G : List GN} {P O : List (List UInt8)} {y : List UInt8} : unt G P O y = 0 ↔ ∀ z ∈ P, z ∈ O ∨ ¬ y ∈ parsOf G z := by
  unfold unt
  rw [List.countP_eq_zero]
  refine forall_congr' fun z => forall_congr' fun _ => ?_
  by_cases h1 : z ∈ O <;> by_cases h2 : y ∈ parsOf G z <;> simp [h1, h2]
theorem candB_unt {G : List GN} {P O : List (List UInt8)} {y : List UInt8} : candB G P O y = true ↔ ¬ y ∈ O ∧ unt G P O y = 0 := by rw [candB_iff, unt_zero]
theorem unt_step {G : List GN} {P O : List (List UInt8)} (hP : P.Nodup) {a : List UInt8} (ha : a ∈ P) (hao : ¬ a ∈ O) (y : List UInt8) : unt G P O y = unt G P (O ++ [a]) y + (if y ∈ parsOf G a then 1 else 0) := by
  obtain ⟨A, B, rfl⟩ := List.append_of_mem ha
  rw [List.nodup_append, List.nodup_cons] at hP
  have hA : ∀ z ∈ A, z ≠ a := fun z hz => hP.2.2 z hz a (by simp)
  have hB : ∀ z ∈ B, z ≠ a := fun z hz e => hP.2.1.1 (e ▸ hz)
  have hc : ∀ l : List (List UInt8), (∀ z ∈ l, z ≠ a) → l.countP (fun z => !decide (z ∈ O ++ [a]) && decide (y ∈ parsOf G z)) = l.countP (fun z => !decide (z ∈ O) && decide (y ∈ parsOf G z)) := fun l hl => by
    refine List.countP_congr fun z hz => ?_
    have : (z ∈ O ++ [a]) ↔ z ∈ O := by simp [hl z hz]
    by_cases h : z ∈ O <;> simp [h, hl z hz]
  unfold unt
  rw [List.countP_append, List.countP_append, List.countP_cons, List.countP_cons, hc A hA, hc B hB]
  by_cases h : y ∈ parsOf G a <;> simp [h, hao] <;> omega

/-- What is ready: just those that may be told. -/
structure ReadyI (G : List GN) (P O R : List (List UInt8)) : Prop where
  nd : R.Nodup
  mem : ∀ y, y ∈ R ↔ y ∈ P ∧ candB G P O y = true
  old : ∀ y ∈ O, unt G P O y = 0
theorem readyI_start {G : List GN} (hG : Wf G) {x : List UInt8} (hx : isNode G x = true) : ReadyI G (pastL G x) [] [x] := by
  refine ⟨by simp, fun y => ?_, by simp⟩
  rw [List.mem_singleton]
  constructor
  · rintro rfl
    refine ⟨(pastL_mem hG hx).2 (.refl y), candB_iff.2 ⟨by simp, fun z hz => .inr fun hy => ?_⟩⟩
    have h1 := (pastL_mem hG hx).1 hz
    have h2 := (par_up hG hy).2.2
    rcases h1.lower hG with e | h3
    · rw [e] at h2; omega
    · omega
  · rintro ⟨hy, hc⟩
    rcases ((pastL_mem hG hx).1 hy).last with e | ⟨m, hm, hym⟩
    · exact e
    · rcases (candB_iff.1 hc).2 m ((pastL_mem hG hx).2 hm) with h | h
      · simp at h
      · exact absurd hym h
theorem mem_eraseIdx_iff {l : List (List UInt8)} (hn : l.Nodup) {i : Nat} (hi : i < l.length) (y : List UInt8) : y ∈ l.eraseIdx i ↔ y ∈ l ∧ y ≠ l.getD i [] := by
  rw [getD_at hi, List.mem_eraseIdx_iff_getElem]
  constructor
  · rintro ⟨j, hj, hne, rfl⟩
    exact ⟨List.getElem_mem _, fun e => hne (nodup_idx hn hj hi e)⟩
  · rintro ⟨hy, hne⟩
    obtain ⟨j, hj, rfl⟩ := List.getElem_of_mem hy
    exact ⟨j, hj, fun e => hne (by subst e; rfl), rfl⟩
/-- One is told: those of its parents that had no other child left are ready now. -/
theorem ReadyI.step {G : List GN} (hG : Wf G) {P O R : List (List UInt8)} (hP : P.Nodup) (hcl : ∀ z ∈ P, ∀ p ∈ parsOf G z, p ∈ P) (h : ReadyI G P O R) {m : Nat} (hm : m < R.length) {a : List UInt8} (ha : a = R.getD m []) :
    ReadyI G P (O ++ [a]) (R.eraseIdx m ++ (parsOf G a).filter fun p => decide (unt G P O p = 1)) := by
  have haR : a ∈ R := by rw [ha]; exact getD_mem hm
  have haP := ((h.mem a).1 haR).1
  have hac := candB_unt.1 ((h.mem a).1 haR).2
  have hst := fun y => unt_step (G := G) hP haP hac.1 y
  have hself : ¬ a ∈ parsOf G a := fun hh => by have := (par_up hG hh).2.2; omega
  refine ⟨?_, fun y => ?_, fun y hy => ?_⟩
  · rw [List.nodup_append]
    refine ⟨h.nd.sublist (List.eraseIdx_sublist _ _), (pars_nodup hG a).sublist List.filter_sublist, fun u hu v hv e => ?_⟩
    subst e
    have h1 := candB_unt.1 ((h.mem u).1 (List.mem_of_mem_eraseIdx hu)).2
    have h2 := (List.mem_filter.1 hv).2
    rw [decide_eq_true_eq] at h2
    omega
  · rw [List.mem_append, mem_eraseIdx_iff h.nd hm, ← ha, List.mem_filter, decide_eq_true_eq, h.mem, candB_unt, candB_unt, List.mem_append, List.mem_singleton]
    have hs := hst y
    constructor
    · rintro (⟨⟨h1, h2, h3⟩, h4⟩ | ⟨h1, h2⟩)
      · refine ⟨h1, fun hh => hh.elim h2 h4, ?_⟩
        omega
      · rw [if_pos h1] at hs
        refine ⟨hcl a haP y h1, fun hh => hh.elim (fun ho => ?_) (fun e => hself (e ▸ h1)), by omega⟩
        have := h.old y ho
        omega
    · rintro ⟨h1, h2, h3⟩
      by_cases hya : y ∈ parsOf G a
      · rw [if_pos hya] at hs
        exact .inr ⟨hya, by omega⟩
      · rw [if_neg hya] at hs
        exact .inl ⟨⟨h1, fun ho => h2 (.inl ho), by omega⟩, fun e => h2 (.inr e)⟩
  · have hs := hst y
    rcases List.mem_append.1 hy with hy | hy
    · have := h.old y hy; omega
    · rw [List.mem_singleton.1 hy] at hs ⊢
      omega
/-- The best of those that are ready. -/
theorem ReadyI.best {G : List GN} {P O R : List (List UInt8)} (h : ReadyI G P O R) {m : Nat} (hm : m < R.length) (hb : ∀ j, j < R.length → R.getD j [] = R.getD m [] ∨ aheadB G (R.getD m []) (R.getD j []) = true) : IsBest G P O (R.getD m []) := by
  have h1 := (h.mem _).1 (getD_mem hm)
  refine ⟨h1.1, h1.2, fun y hy hc => ?_⟩
  obtain ⟨j, hj, rfl⟩ := List.getElem_of_mem ((h.mem y).2 ⟨hy, hc⟩)
  rcases hb j hj with e | e
  · rw [getD_at hj] at e; exact .inl e
  · rw [getD_at hj, ahead_iff] at e
    exact .inr e
theorem ReadyI.some_left {G : List GN} (hG : Wf G) {P O R : List (List UInt8)} (hP : P.Nodup) (h : ReadyI G P O R) (hR : R = []) : P.length ≤ O.length := Nat.le_of_not_lt fun hl => by
  obtain ⟨x, hx, hc⟩ := cand_ex hG (O := O) (Go.Proofs.Ytmmmimkikakalaa.some_left hP hl)
  have := (h.mem x).2 ⟨hx, hc⟩
  rw [hR] at this; cases this
theorem ReadyI.len {G : List GN} {P O R : List (List UInt8)} (h : ReadyI G P O R) : R.length ≤ P.length := nodup_len R P h.nd (fun y hy => ((h.mem y).1 hy).1)
end Go.Proofs.Ytmmmimkikakalaa

namespace Go.Proofs.Ytmmmimkikakalaa
open Go.RowKit Go.Maps
set_option linter.unusedVariables false

def X1 : List GN := [(oneId 1, [], 1)]
def X2 : List GN := [(oneId 1, [], 1), (oneId 2, [oneId 1], 2)]
def X3 : List GN := [(oneId 1, [], 1), (oneId 2, [oneId 1], 2), (oneId 3, [oneId 1], 3)]
def X4 : List GN := [(oneId 1, [], 1), (oneId 2, [oneId 1], 2), (oneId 3, [oneId 1], 3), (oneId 4, [oneId 2, oneId 3], 4)]
set_option maxRecDepth 100000 in
theorem x_e1 : addE [] (oneId 1) [] = 0 ∧ addG [] (oneId 1) [] 1 = X1 := by unfold addG X1; decide
set_option maxRecDepth 100000 in
theorem x_e2 : addE X1 (oneId 2) [oneId 1] = 0 ∧ addG X1 (oneId 2) [oneId 1] 2 = X2 := by unfold addG X1 X2; decide
set_option maxRecDepth 100000 in
theorem x_e3 : addE X2 (oneId 3) [oneId 1] = 0 ∧ addG X2 (oneId 3) [oneId 1] 3 = X3 := by unfold addG X2 X3; decide
set_option maxRecDepth 100000 in
theorem x_e4 : addE X3 (oneId 4) [oneId 2, oneId 3] = 0 ∧ addG X3 (oneId 4) [oneId 2, oneId 3] 4 = X4 := by unfold addG X3 X4; decide
theorem x_wf : Wf X4 := by
  rw [← x_e4.2, ← x_e3.2, ← x_e2.2, ← x_e1.2]
  exact wf_add (wf_add (wf_add (wf_add wf_nil (oneId_32 1)) (oneId_32 2)) (oneId_32 3)) (oneId_32 4)
set_option maxRecDepth 100000 in
theorem x_n1 : isNode X4 (oneId 1) = true := by decide
set_option maxRecDepth 100000 in
theorem x_n2 : isNode X4 (oneId 2) = true := by decide
set_option maxRecDepth 100000 in
theorem x_n3 : isNode X4 (oneId 3) = true := by decide
set_option maxRecDepth 100000 in
theorem x_n4 : isNode X4 (oneId 4) = true := by decide
set_option maxRecDepth 100000 in
theorem x_p : parsOf X4 (oneId 1) = [] ∧ parsOf X4 (oneId 2) = [oneId 1] ∧ parsOf X4 (oneId 3) = [oneId 1] ∧ parsOf X4 (oneId 4) = [oneId 2, oneId 3] := by decide
theorem x_past {x : List UInt8} (hx : isNode X4 x = true) {O : List (List UInt8)} (hs : Strict O) (h0 : x ∈ O) (hc : ∀ s ∈ O, ∀ p ∈ parsOf X4 s, p ∈ O) (ha : ∀ y ∈ O, Anc X4 x y) : pastL X4 x = O := by
  refine strict_ext _ _ (pastL_strict X4 x) hs fun y => ?_
  rw [pastL_mem x_wf hx]
  exact ⟨fun h => h.closed hc h0, ha y⟩
theorem anc1 {x y : List UInt8} (h : y ∈ parsOf X4 x) : Anc X4 x y := .step h (.refl y)
set_option maxRecDepth 100000 in
theorem x_s (n : Nat) (hn : n ≤ 4) : Strict ([oneId 1, oneId 2, oneId 3, oneId 4].take n) := by
  refine (strict_isSet _).1 ?_
  match n, hn with
  | 0, _ => decide
  | 1, _ => decide
  | 2, _ => decide
  | 3, _ => decide
  | 4, _ => decide
set_option maxRecDepth 100000 in
theorem x_past1 : pastL X4 (oneId 1) = [oneId 1] := x_past x_n1 (x_s 1 (by decide)) (by simp) (by decide) (by intro y hy; rw [List.mem_singleton.1 hy]; exact .refl _)
set_option maxRecDepth 100000 in
theorem x_past2 : pastL X4 (oneId 2) = [oneId 1, oneId 2] := x_past x_n2 (x_s 2 (by decide)) (by simp) (by decide) (by
  intro y hy
  rcases List.mem_cons.1 hy with rfl | hy
  · exact anc1 (by decide)
  · rw [List.mem_singleton.1 hy]; exact .refl _)
set_option maxRecDepth 100000 in
theorem x_past3 : pastL X4 (oneId 3) = [oneId 1, oneId 3] := x_past x_n3 ((strict_isSet _).1 (by decide)) (by simp) (by decide) (by
  intro y hy
  rcases List.mem_cons.1 hy with rfl | hy
  · exact anc1 (by decide)
  · rw [List.mem_singleton.1 hy]; exact .refl _)
set_option maxRecDepth 100000 in
theorem x_past4 : pastL X4 (oneId 4) = [oneId 1, oneId 2, oneId 3, oneId 4] := x_past x_n4 (x_s 4 (by decide)) (by simp) (by decide) (by
  intro y hy
  rcases List.mem_cons.1 hy with rfl | hy
  · exact (anc1 (y := oneId 2) (by decide)).par (by decide)
  rcases List.mem_cons.1 hy with rfl | hy
  · exact anc1 (by decide)
  rcases List.mem_cons.1 hy with rfl | hy
  · exact anc1 (by decide)
  · rw [List.mem_singleton.1 hy]; exact .refl _)
set_option maxRecDepth 100000 in
theorem x_is : isR X4 (oneId 1) (oneId 4) = true ∧ isR X4 (oneId 4) (oneId 1) = false := by
  unfold isR
  rw [x_past4, x_past1]
  decide
set_option maxRecDepth 100000 in
theorem x_bases : basesL X4 (oneId 2) (oneId 3) = [oneId 1] := by
  have hc : commonL X4 (oneId 2) (oneId 3) = [oneId 1] := by
    refine strict_ext _ _ (setL_strict _) (x_s 1 (by decide)) fun y => ?_
    rw [commonL_mem, x_past2, x_past3]
    simp only [List.mem_cons, List.not_mem_nil, or_false]
    constructor
    · rintro ⟨rfl | rfl, h | h⟩
      · rfl
      · rfl
      · exact h
      · exact absurd h (by decide)
    · rintro rfl; exact ⟨.inl rfl, .inl rfl⟩
  unfold basesL
  rw [hc]
  refine strict_ext _ _ (setL_strict _) (x_s 1 (by decide)) fun y => ?_
  rw [setL_mem]
  simp only [List.mem_filter, List.mem_singleton, List.all_cons, List.all_nil, Bool.and_true, Bool.or_eq_true, decide_eq_true_eq]
  exact ⟨fun h => h.1, fun h => ⟨h, .inl h.symm⟩⟩
set_option maxRecDepth 100000 in
theorem x_best {O : List (List UInt8)} {x : List UInt8} (hm : x ∈ [oneId 1, oneId 2, oneId 3, oneId 4]) (hc : candB X4 [oneId 1, oneId 2, oneId 3, oneId 4] O x = true)
    (hb : ([oneId 1, oneId 2, oneId 3, oneId 4].all fun y => !candB X4 [oneId 1, oneId 2, oneId 3, oneId 4] O y || (decide (y = x) || decide (stampOf X4 y < stampOf X4 x))) = true) : IsBest X4 [oneId 1, oneId 2, oneId 3, oneId 4] O x := by
  refine ⟨hm, hc, fun y hy hcy => ?_⟩
  have := List.all_eq_true.1 hb y hy
  rw [hcy] at this
  simp only [Bool.not_true, Bool.false_or, Bool.or_eq_true, decide_eq_true_eq] at this
  rcases this with h | h
  · exact .inl h
  · exact .inr (.inl h)
set_option maxRecDepth 100000 in
theorem x_log : logL X4 (oneId 4) = [oneId 4, oneId 3, oneId 2, oneId 1] := by
  unfold logL
  rw [x_past4]
  have h0 := LogIs.zero X4 [oneId 1, oneId 2, oneId 3, oneId 4]
  have e0 : logN X4 [oneId 1, oneId 2, oneId 3, oneId 4] 0 = [] := rfl
  obtain ⟨e1, h1⟩ := h0.step (x := oneId 4) (by rw [e0]; exact x_best (by decide) (by decide) (by decide))
  rw [e0, List.nil_append] at e1
  obtain ⟨e2, h2⟩ := h1.step (x := oneId 3) (by rw [e1]; exact x_best (by decide) (by decide) (by decide))
  rw [e1] at e2
  obtain ⟨e3, h3⟩ := h2.step (x := oneId 2) (by rw [e2]; exact x_best (by decide) (by decide) (by decide))
  rw [e2] at e3
  obtain ⟨e4, h4⟩ := h3.step (x := oneId 1) (by rw [e3]; exact x_best (by decide) (by decide) (by decide))
  rw [e3] at e4
  exact e4
end Go.Proofs.Ytmmmimkikakalaa
