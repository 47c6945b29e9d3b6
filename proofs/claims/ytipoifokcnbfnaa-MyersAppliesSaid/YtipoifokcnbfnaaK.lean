/- The walk of next. -/
import Derived.Test.YtipoifokcnbfnaaJ
namespace Go.Proofs.Ytipoifokcnbfnaa
open Go.RowKit
set_option linter.unusedVariables false

theorem row_new1 {α : Type} {R : Rec α} (w : World) (e : TypeId) (x : α) (hx : R.ok x) : R.row e w.heap.size [x] (.slice (some ⟨w.heap.size, 0, none⟩) 1 1) (w.alloc (.cells (R.enc x).toArray e)) :=
  ⟨by simpa using hx, by simp [Rec.cells, R.len x hx], .inr ⟨w.heap.size, 1, (R.enc x).toArray, rfl, Nat.le_refl _, (MapKept.heap_alloc w _).1, by simp, by unfold maxLen; omega, by simp [R.len x hx], by simp [Rec.cells, R.len x hx, List.take_of_length_le]⟩⟩
theorem made_nums (q : IntKind) (n : Nat) : (madeCells #[.int q 0] n).toList = (numR q).cells (List.replicate n 0) := by
  rw [toList_madeCells_one]
  induction n with
  | zero => rfl
  | succ n ih => rw [List.replicate_succ, List.replicate_succ, Rec.cells_cons, ih]; rfl
theorem row_made (q : IntKind) (w : World) (e : TypeId) (n : Nat) (hn : n ≤ 1000000) : (numR q).row e w.heap.size (List.replicate n 0) (.slice (some ⟨w.heap.size, 0, none⟩) n n) (w.alloc (.cells (madeCells #[.int q 0] n) e)) := by
  have hs : (madeCells #[Value.int q 0] n).size = n := by
    have := congrArg List.length (made_nums q n)
    rw [Rec.cells_length _ _ (fun _ _ => trivial)] at this
    simpa [numR] using this
  refine ⟨fun _ _ => trivial, by rw [Rec.cells_length _ _ (fun _ _ => trivial)], .inr ⟨w.heap.size, n, madeCells #[.int q 0] n, by simp, Nat.le_refl _, (MapKept.heap_alloc w _).1, by simp, by unfold maxLen; omega, by rw [hs]; simp [numR], ?_⟩⟩
  rw [made_nums q n, List.take_of_length_le (by rw [Rec.cells_length _ _ (fun _ _ => trivial)]; simp)]
theorem info22e : (Try.prog.info? 21).map (fun i => (i.zero, i.size, i.bytes)) = some (some (.int .i32 0), 1, 4) := by kernel_rfl
@[go_sem ↓] theorem mk22 (n : Nat) (h : n ≤ 1000000) (w : World) : (Instr.makeSlice 22 (.int .i64 (n : Int)) (.int .i64 (n : Int))).run Try.prog w = .ok (.slice (some ⟨w.heap.size, 0, none⟩) n n) (w.alloc (.cells (madeCells #[.int .i32 0] n) 21)) := by
  have h4 := info22e
  cases hi : Try.prog.info? 21 with
  | none => rw [hi] at h4; cases h4
  | some i =>
    rw [hi] at h4
    simp at h4
    obtain ⟨z0, z1, z2⟩ := h4
    have := run_make (P := Try.prog) w 22 21 i _ Try.underlying22 hi z0 .i64 .i64 n n (by omega) (Int.le_refl _) (by rw [z2]; omega) (by omega)
    rw [this, z1]
    simp [Value.cells]
theorem PL_ext (a b : List Int) (d : Nat) (O : List Int) (hl : O.length = d + 2) (h : ∀ t, t < d + 2 → O.getD t never = entry a b (d + 1) (PL a b d) t) : O = PL a b (d + 1) := by
  apply List.ext_getElem
  · rw [hl, PL_len]
  · intro t h1 h2
    have e1 := h t (by omega)
    have e2 := PL_get a b d t (by omega)
    rw [← e2] at e1
    simpa [List.getD_eq_getElem?_getD, h1, h2] using e1
theorem PL_bd (a b : List Int) (ha : a.length ≤ 4096) (d t : Nat) (ht : t ≤ d) : (PL a b d).getD t never = never ∨ (0 ≤ (PL a b d).getD t never ∧ (PL a b d).getD t never ≤ 4096) := by
  by_cases h : (PL a b d).getD t never = never
  · exact .inl h
  · obtain ⟨h1, h2, _⟩ := PL_snd a b (by unfold never; omega) d t ht h
    exact .inr ⟨h1, by omega⟩
/-- A row of numbers that a call has laid, in a slot. -/
def RowV (B : Nat) (xs : List Int) : Value → World → Prop := fun v w => (numR .i32).row 21 B xs v w
theorem RowV_st (B : Nat) (xs : List Int) : ∀ v w w', RowV B xs v w → Below w.heap.size w w' → RowV B xs v w' := fun _ _ _ h hb => h.below hb

set_option maxHeartbeats 4000000 in
set_option maxRecDepth 100000 in
theorem next0_any (s : Nat) (a b : List Int) (pl : Option Addr) (n c : Nat) (w : World) (h : Srch w s a b) (ha : a.length ≤ 4096) (hb : b.length ≤ 4096) :
    Calls Try.prog 33 #[.pointer (some ⟨s, 0, none⟩), .int .i64 ((0 : Nat) : Int), .slice pl n c] w fun e w' => ∃ v, e = .returned v ∧ (numR .i32).row 21 w.heap.size (PL a b 0) v w' ∧ Below w.heap.size w w' := by
  have HS := Lib.hid h
  have HSL := Lib.hid (fun w' (hw : Below w.heap.size w w') => slide_any s a b a.length ((a.length : Int) - b.length) w' (h.below hw) ha hb (Nat.le_refl _) (by omega) (by omega))
  obtain ⟨pa, ca, pb, cb, h1, h2, h3, h4, h5⟩ := h
  clear h4 h5
  have f1 : IntKind.i64.wrap ((a.length : Int) - b.length) = (a.length : Int) - b.length := IntWalk.i64_in _ (by omega)
  obtain ⟨x, hx⟩ : ∃ x, x = slide a b ((a.length : Int) - b.length) a.length := ⟨_, rfl⟩
  rw [← hx] at HSL
  have HX := Lib.hid (show PL a b 0 = [(x : Int)] by rw [hx]; rfl)
  clear hx
  obtain ⟨W, hW⟩ : ∃ W, W = w := ⟨_, rfl⟩
  rw [← hW] at h1 h2 h3 HSL HS ⊢
  clear hW
  go_enter Try.func33, Try.ntmps33
  go_upto_region 2 with fail
  apply wp_region_specsL [[], [], [1], [2], [3], [4], [], [6], [7], [8], [9], [], [11], [12], [13], [14], [10, 15], [0, 5, 16], [17], [18]] [some 14, some 15, some 16, some 17, some 18, some 19, some 20, some 21, some 22, some 23, some 24, some 25, some 26, some 27, some 28, some 29, some 30, some 31, some 32, some 6] [0, 1, 2, 3, 4, 5, 6, 7, 8, 9, 10, 11, 12, 13, 14, 15, 16, 17, 18, 19]
    [eqv _, eqv _, eqv _, eqv _, eqv _, eqv _, eqv _, eqv _, eqv _, eqv _, eqv _, eqv _, eqv _, eqv _, eqv _, eqv _, eqv _, eqv _, RowV W.heap.size [(x : Int)], RowV W.heap.size [(x : Int)]]
  case hm => kernel_rfl
  case hok => kernel_rfl
  case hop =>
    refine ⟨?_, ?_, ?_, ?_, ?_, ?_, ?_, ?_, ?_, ?_, ?_, ?_, ?_, ?_, ?_, ?_, ?_, ?_, ?_, ?_, trivial⟩
    · intro vs w1 hr _ hd
      obtain ⟨x1, rfl⟩ := ov_of hr
      clear hr
      simp only [putL]
      clear hd 
      go_wp2
      exact opEnds_mk rfl (by simp only [List.getElem?_toArray, List.getElem?_cons_succ, List.getElem?_cons_zero] <;> rfl) rfl (Below.refl _ _) rfl
    · intro vs w1 hr _ hd
      obtain ⟨x1, rfl⟩ := ov_of hr
      clear hr
      simp only [putL]
      clear hd 
      go_wp2
      exact opEnds_mk rfl (by simp only [List.getElem?_toArray, List.getElem?_cons_succ, List.getElem?_cons_zero] <;> rfl) rfl (Below.refl _ _) rfl
    · intro vs w1 hr _ hd
      obtain ⟨x1, rfl⟩ := ov_of hr
      clear hr
      have h1 := hd.get 1 rfl
      change vs 1 = _ at h1
      simp only [putL, h1]
      clear hd h1
      go_wp2
      exact opEnds_mk rfl (by simp only [List.getElem?_toArray, List.getElem?_cons_succ, List.getElem?_cons_zero] <;> rfl) rfl (Below.refl _ _) rfl
    · intro vs w1 hr _ hd
      obtain ⟨x1, rfl⟩ := ov_of hr
      clear hr
      have h2 := hd.get 2 rfl
      change vs 2 = _ at h2
      simp only [putL, h2]
      clear hd h2
      go_wp2
      exact opEnds_mk rfl (by simp only [List.getElem?_toArray, List.getElem?_cons_succ, List.getElem?_cons_zero] <;> rfl) rfl (Below.refl _ _) rfl
    · intro vs w1 hr _ hd
      obtain ⟨x1, rfl⟩ := ov_of hr
      clear hr
      have h3 := hd.get 3 rfl
      change vs 3 = _ at h3
      simp only [putL, h3]
      clear hd h3
      go_wp2
      exact opEnds_mk rfl (by simp only [List.getElem?_toArray, List.getElem?_cons_succ, List.getElem?_cons_zero] <;> rfl) rfl (Below.refl _ _) rfl
    · intro vs w1 hr _ hd
      obtain ⟨x1, rfl⟩ := ov_of hr
      clear hr
      have h4 := hd.get 4 rfl
      change vs 4 = _ at h4
      simp only [putL, h4]
      clear hd h4
      go_wp2
      exact opEnds_mk rfl (by simp only [List.getElem?_toArray, List.getElem?_cons_succ, List.getElem?_cons_zero] <;> rfl) rfl (Below.refl _ _) rfl
    · intro vs w1 hr _ hd
      obtain ⟨x1, rfl⟩ := ov_of hr
      clear hr
      simp only [putL]
      clear hd 
      go_wp2
      exact opEnds_mk rfl (by simp only [List.getElem?_toArray, List.getElem?_cons_succ, List.getElem?_cons_zero] <;> rfl) rfl (Below.refl _ _) rfl
    · intro vs w1 hr _ hd
      obtain ⟨x1, rfl⟩ := ov_of hr
      clear hr
      have h6 := hd.get 6 rfl
      change vs 6 = _ at h6
      simp only [putL, h6]
      clear hd h6
      go_wp2
      exact opEnds_mk rfl (by simp only [List.getElem?_toArray, List.getElem?_cons_succ, List.getElem?_cons_zero] <;> rfl) rfl (Below.refl _ _) rfl
    · intro vs w1 hr _ hd
      obtain ⟨x1, rfl⟩ := ov_of hr
      clear hr
      have h7 := hd.get 7 rfl
      change vs 7 = _ at h7
      simp only [putL, h7]
      clear hd h7
      go_wp2
      exact opEnds_mk rfl (by simp only [List.getElem?_toArray, List.getElem?_cons_succ, List.getElem?_cons_zero] <;> rfl) rfl (Below.refl _ _) rfl
    · intro vs w1 hr _ hd
      obtain ⟨x1, rfl⟩ := ov_of hr
      clear hr
      have h8 := hd.get 8 rfl
      change vs 8 = _ at h8
      simp only [putL, h8]
      clear hd h8
      go_wp2
      exact opEnds_mk rfl (by simp only [List.getElem?_toArray, List.getElem?_cons_succ, List.getElem?_cons_zero] <;> rfl) rfl (Below.refl _ _) rfl
    · intro vs w1 hr _ hd
      obtain ⟨x1, rfl⟩ := ov_of hr
      clear hr
      have h9 := hd.get 9 rfl
      change vs 9 = _ at h9
      simp only [putL, h9]
      clear hd h9
      go_wp2
      exact opEnds_mk rfl (by simp only [List.getElem?_toArray, List.getElem?_cons_succ, List.getElem?_cons_zero] <;> rfl) rfl (Below.refl _ _) rfl
    · intro vs w1 hr _ hd
      obtain ⟨x1, rfl⟩ := ov_of hr
      clear hr
      simp only [putL]
      clear hd 
      go_wp2
      exact opEnds_mk rfl (by simp only [List.getElem?_toArray, List.getElem?_cons_succ, List.getElem?_cons_zero] <;> rfl) rfl (Below.refl _ _) rfl
    · intro vs w1 hr _ hd
      obtain ⟨x1, rfl⟩ := ov_of hr
      clear hr
      have h11 := hd.get 11 rfl
      change vs 11 = _ at h11
      simp only [putL, h11]
      clear hd h11
      go_wp2
      exact opEnds_mk rfl (by simp only [List.getElem?_toArray, List.getElem?_cons_succ, List.getElem?_cons_zero] <;> rfl) rfl (Below.refl _ _) rfl
    · intro vs w1 hr _ hd
      obtain ⟨x1, rfl⟩ := ov_of hr
      clear hr
      have h12 := hd.get 12 rfl
      change vs 12 = _ at h12
      simp only [putL, h12]
      clear hd h12
      go_wp2
      exact opEnds_mk rfl (by simp only [List.getElem?_toArray, List.getElem?_cons_succ, List.getElem?_cons_zero] <;> rfl) rfl (Below.refl _ _) rfl
    · intro vs w1 hr _ hd
      obtain ⟨x1, rfl⟩ := ov_of hr
      clear hr
      have h13 := hd.get 13 rfl
      change vs 13 = _ at h13
      simp only [putL, h13]
      clear hd h13
      go_wp2
      exact opEnds_mk rfl (by simp only [List.getElem?_toArray, List.getElem?_cons_succ, List.getElem?_cons_zero] <;> rfl) rfl (Below.refl _ _) rfl
    · intro vs w1 hr _ hd
      obtain ⟨x1, rfl⟩ := ov_of hr
      clear hr
      have h14 := hd.get 14 rfl
      change vs 14 = _ at h14
      simp only [putL, h14]
      clear hd h14
      go_wp2
      exact opEnds_mk rfl (by simp only [List.getElem?_toArray, List.getElem?_cons_succ, List.getElem?_cons_zero] <;> rfl) rfl (Below.refl _ _) rfl
    · intro vs w1 hr _ hd
      obtain ⟨x1, rfl⟩ := ov_of hr
      clear hr
      have h10 := hd.get 10 rfl
      change vs 10 = _ at h10
      have h15 := hd.get 15 rfl
      change vs 15 = _ at h15
      simp only [putL, h10, h15]
      clear hd h10 h15
      go_wp2
      exact opEnds_mk rfl (by simp only [List.getElem?_toArray, List.getElem?_cons_succ, List.getElem?_cons_zero] <;> rfl) rfl (Below.refl _ _) rfl
    · intro vs w1 hr _ hd
      obtain ⟨x1, rfl⟩ := ov_of hr
      clear hr
      have h0 := hd.get 0 rfl
      change vs 0 = _ at h0
      have h5 := hd.get 5 rfl
      change vs 5 = _ at h5
      have h16 := hd.get 16 rfl
      change vs 16 = _ at h16
      simp only [putL, h0, h5, h16]
      clear hd h0 h5 h16
      go_wp2_with fail
      refine (HSL.out _ (ov_below _ _)).mono ?_
      rintro e w2 ⟨rfl, hb2⟩
      go_wp2
      exact opEnds_mk rfl (by simp only [List.getElem?_toArray, List.getElem?_cons_succ, List.getElem?_cons_zero] <;> rfl) rfl (hb2) rfl
    · intro vs w1 hr _ hd
      obtain ⟨x1, rfl⟩ := ov_of hr
      clear hr
      have h17 := hd.get 17 rfl
      change vs 17 = _ at h17
      simp only [putL, h17]
      clear hd h17
      go_wp2
      exact opEnds_mk rfl (by simp only [List.getElem?_toArray, List.getElem?_cons_succ, List.getElem?_cons_zero] <;> rfl) rfl ((Below.refl _ _).alloc (Nat.le_refl _) _) ((row_new1 (R := numR .i32) _ 21 (x : Int) trivial).base (ov_size _ _))
    · intro vs w1 hr _ hd
      obtain ⟨x1, rfl⟩ := ov_of hr
      clear hr
      have h18 := hd.get 18 rfl
      simp only [putL]
      clear hd 
      go_wp2
      exact opEnds_mk rfl (by simp only [List.getElem?_toArray, List.getElem?_cons_succ, List.getElem?_cons_zero] <;> rfl) rfl (Below.refl _ _) h18
  case hst => exact ⟨eqv_st _ _, eqv_st _ _, eqv_st _ _, eqv_st _ _, eqv_st _ _, eqv_st _ _, eqv_st _ _, eqv_st _ _, eqv_st _ _, eqv_st _ _, eqv_st _ _, eqv_st _ _, eqv_st _ _, eqv_st _ _, eqv_st _ _, eqv_st _ _, eqv_st _ _, eqv_st _ _, RowV_st _ _, RowV_st _ _, trivial⟩
  case hend =>
    intro vs w1 hr hd
    have h0 := hd.get 0 rfl
    change vs 0 = _ at h0
    have h1 := hd.get 1 rfl
    change vs 1 = _ at h1
    have h2 := hd.get 2 rfl
    change vs 2 = _ at h2
    have h3 := hd.get 3 rfl
    change vs 3 = _ at h3
    have h4 := hd.get 4 rfl
    change vs 4 = _ at h4
    have h5 := hd.get 5 rfl
    change vs 5 = _ at h5
    have h6 := hd.get 6 rfl
    change vs 6 = _ at h6
    have h7 := hd.get 7 rfl
    change vs 7 = _ at h7
    have h8 := hd.get 8 rfl
    change vs 8 = _ at h8
    have h9 := hd.get 9 rfl
    change vs 9 = _ at h9
    have h10 := hd.get 10 rfl
    change vs 10 = _ at h10
    have h11 := hd.get 11 rfl
    change vs 11 = _ at h11
    have h12 := hd.get 12 rfl
    change vs 12 = _ at h12
    have h13 := hd.get 13 rfl
    change vs 13 = _ at h13
    have h14 := hd.get 14 rfl
    change vs 14 = _ at h14
    have h15 := hd.get 15 rfl
    change vs 15 = _ at h15
    have h16 := hd.get 16 rfl
    change vs 16 = _ at h16
    have h17 := hd.get 17 rfl
    change vs 17 = _ at h17
    have h18 := hd.get 18 rfl
    have h19 := hd.get 19 rfl
    obtain ⟨x1, rfl⟩ := ov_of hr
    simp only [putL, List.getD_cons_zero, List.getD_cons_succ, Act.put, List.setIfInBounds_toArray, List.set_cons_zero, List.set_cons_succ, h0, h1, h2, h3, h4, h5, h6, h7, h8, h9, h10, h11, h12, h13, h14, h15, h16, h17]
    clear hd hr h0 h1 h2 h3 h4 h5 h6 h7 h8 h9 h10 h11 h12 h13 h14 h15 h16 h17
    go_wp2
    go_ret
    exact ⟨_, rfl, by rw [HX.out]; exact h19, ov_below _ _⟩

/-- The best of the first candidate. -/
def best1 (k : Int) (d : Nat) (ahead : List Int) (t : Nat) : Int := if t < d ∧ ahead.getD t never ≠ never then try1 k never (ahead.getD t never - 1) else never
theorem best_eq (k : Int) (d : Nat) (ahead : List Int) (t : Nat) : best k d ahead t = if 0 < t ∧ ahead.getD (t - 1) never ≠ never then try1 k (best1 k d ahead t) (ahead.getD (t - 1) never) else best1 k d ahead t := rfl

theorem One.other' {w : World} {g : Nat} {v v' : Value} {t : TypeId} (h : One w g v t) (a : Addr) (hne : g ≠ a.block) : One (w.setCell a v') g v t := (Below.heap_setCell w a v' g hne).trans h
theorem set_entry (O : List Int) (t : Nat) (x : Int) (E : Nat → Int) (hl : t < O.length) (h : ∀ t', t' < t → O.getD t' never = E t') (hx : x = E t) : ∀ t', t' < t + 1 → (O.set t x).getD t' never = E t' := by
  intro t' ht'
  by_cases he : t' = t
  · subst he; simp [List.getD_eq_getElem?_getD, hl, hx]
  · rw [← h t' (by omega)]; simp [List.getD_eq_getElem?_getD, List.getElem?_set_ne (Ne.symm he)]
theorem try_own (i k best : Int) (gk gb : Nat) (w : World) (hne : gk ≠ gb) (hk : One w gk (.int .i64 k) 3) (hb : One w gb (.int .i64 best) 3) (h : -1000000 ≤ i ∧ i ≤ 3000000000) (h' : -1000000 ≤ k ∧ k ≤ 1000000) :
    Calls Try.prog 41 #[.int .i64 i, .pointer (some ⟨gk, 0, none⟩), .pointer (some ⟨gb, 0, none⟩)] w fun e w' => e = .returned (.tuple #[]) ∧
      One w' gk (.int .i64 k) 3 ∧ One w' gb (.int .i64 (try1 k best i)) 3 ∧ (∀ B, B ≤ gb → Below B w w') := by
  refine (try_any i k best gk gb w hk hb h h').mono ?_
  rintro e w' ⟨rfl, ⟨h1, rfl⟩ | rfl⟩
  · exact ⟨rfl, hk, by rw [h1]; exact hb, fun B _ => Below.refl _ _⟩
  · exact ⟨rfl, hk.other hne, hb.set _, fun B hB => (Below.refl _ _).setCell (p := ⟨gb, 0, none⟩) hB _⟩

set_option maxHeartbeats 8000000 in
set_option maxRecDepth 100000 in
theorem nextS_any (s : Nat) (a b : List Int) (d : Nat) (pl : Option Addr) (c : Nat) (w : World) (h : Srch w s a b) (ha : a.length ≤ 4096) (hb : b.length ≤ 4096) (hd : d ≤ 10000) (hP : (numR .i32).In w pl (PL a b d)) :
    Calls Try.prog 33 #[.pointer (some ⟨s, 0, none⟩), .int .i64 ((d + 1 : Nat) : Int), .slice pl (d + 1 : Nat) c] w fun e w' => ∃ v, e = .returned v ∧ (numR .i32).row 21 w.heap.size (PL a b (d + 1)) v w' ∧ Below w.heap.size w w' := by
  have HS := Lib.hid h
  rcases hP.2 with h0 | ⟨pb, po, rfl, hplt, hpc⟩
  · have := PL_len a b d; rw [h0] at this; cases this
  have HPC := Lib.hid (show ∀ (X : World) (i : Nat), Below w.heap.size w X → i < d + 1 → X.cell? ⟨pb, po + i, none⟩ = some (.int .i32 ((PL a b d).getD i never)) from fun X i hX hi => by
    have hi' : i < (PL a b d).length := by rw [PL_len]; exact hi
    exact num_cell ((hpc i _ (by simp [List.getD_eq_getElem?_getD, hi'])).below hX))
  clear h hP hpc
  have HPX := Lib.hid (PL_ext a b d)
  obtain ⟨Q, hQe⟩ : ∃ Q, Q = PL a b (d + 1) := ⟨_, rfl⟩
  rw [← hQe] at HPX ⊢
  clear hQe
  obtain ⟨D, hD⟩ : ∃ D, D = d + 1 := ⟨_, rfl⟩
  obtain ⟨M, hM⟩ : ∃ M, M = D + 1 := ⟨_, rfl⟩
  rw [← hD]
  have hne0 : ((D : Int) == 0) = false := beq_eq_false_iff_ne.2 (by omega)
  have f0 : IntKind.i64.wrap ((D : Int) + 1) = (M : Int) := by rw [IntWalk.i64_in _ (by omega)]; omega
  have hM1 : M ≤ 10002 := by omega
  have hD1 : D ≤ 10001 := by omega
  have hM2 : M ≤ 1000000 := by omega
  have HD := Lib.hid hD
  have HM := Lib.hid hM
  have HPB := Lib.hid (PL_bd a b ha d)
  have HPS := Lib.hid (PL_snd a b (by unfold never; omega) d)
  have HBS := Lib.hid (fun t (ht : t ≤ d + 1) => best_snd a b d t (PL_snd a b (by unfold never; omega) d) ht)
  have HPL := Lib.hid (PL_len a b d)
  obtain ⟨P, hPe⟩ : ∃ P, P = PL a b d := ⟨_, rfl⟩
  rw [← hPe] at HPB HPS HBS HPX HPL HPC
  clear hD hM hPe
  go_enter Try.func33, Try.ntmps33
  go_upto_region 4 with fail
  have hrow := row_made .i32 w 21 M (by omega)
  have hbe := (Below.refl w.heap.size w).alloc (Nat.le_refl _) (.cells (madeCells #[.int .i32 0] M) 21)
  obtain ⟨W0, hW0⟩ : ∃ W0, W0 = w.alloc (.cells (madeCells #[.int .i32 0] M) 21) := ⟨_, rfl⟩
  obtain ⟨go, hgo⟩ : ∃ go, go = w.heap.size := ⟨_, rfl⟩
  rw [← hW0, ← hgo] at hrow
  rw [← hW0] at hbe
  rw [← hW0, ← hgo]
  have HR0 := Lib.hid hrow
  have HB0 := Lib.hid (show Below go w W0 by rw [hgo]; exact hbe)
  have HGO := Lib.hid hgo
  clear hrow hbe hW0 hgo
  go_wp2_with fail
  go_loopg [38] M (fun g v38 wr => ∃ (t : Nat) (O : List Int), g + t = M ∧ v38 = .int .i64 t ∧ O.length = M ∧ (∀ t', t' < t → O.getD t' never = entry a b (d + 1) P t') ∧ (numR .i32).row 21 go O (.slice (some ⟨go, 0, none⟩) M M) wr ∧ Below go w wr)
  case atStart => exact ⟨0, List.replicate M 0, by omega, rfl, by simp, fun t' h => by omega, HR0.out, HB0.out⟩
  case round =>
    obtain ⟨t, O, hg, rfl, hl, hO, hrow, hbw⟩ := hrel
    have HG := Lib.hid hg
    have HOL := Lib.hid hl
    have HO := Lib.hid hO
    have HR := Lib.hid hrow
    have HB := Lib.hid hbw
    clear hg hl hO hrow hbw
    by_cases ht : t < M
    · have htd : t ≤ d + 1 := by have := HD.out; have := HM.out; omega
      have hdB : Below w.heap.size w wr := by rw [← HGO.out]; exact HB.out
      have HSW := Lib.hid (HS.out.below hdB)
      have HDG := Lib.hid (diag_any s a b D t wr HSW.out ha hb (by omega) (by omega))
      have htz : (t : Int) < M := by omega
      clear hdB
      go_wp2_with fail
      refine HDG.out.mono ?_
      rintro e w1 ⟨rfl, hb1⟩
      obtain ⟨k, hk⟩ : ∃ k, k = diag a b D t := ⟨_, rfl⟩
      rw [← hk]
      have HK := Lib.hid hk
      have hkb : -1000000 ≤ k ∧ k ≤ 1000000 := by rw [hk]; unfold diag; omega
      have HB1 := Lib.hid hb1
      clear hb1 hk HDG
      go_upto_region 8 with fail
      obtain ⟨bb, hbb'⟩ : ∃ bb, bb = w1.heap.size + 1 := ⟨_, rfl⟩
      obtain ⟨kb, hkb'⟩ : ∃ kb, kb = w1.heap.size := ⟨_, rfl⟩
      have hO1 : One ((w1.alloc (.cells #[.int .i64 k] 3)).alloc (.cells #[.int .i64 2147483647] 3)) kb (.int .i64 k) 3 := by
        rw [hkb']; exact (Below.heap_alloc (w1.alloc (.cells #[.int .i64 k] 3)) (.cells #[.int .i64 2147483647] 3) w1.heap.size (by simp)).trans (MapKept.heap_alloc w1 _).1
      have hO2 : One ((w1.alloc (.cells #[.int .i64 k] 3)).alloc (.cells #[.int .i64 2147483647] 3)) bb (.int .i64 2147483647) 3 := by
        rw [hbb']; have := (MapKept.heap_alloc (w1.alloc (.cells #[.int .i64 k] 3)) (.cells #[.int .i64 2147483647] 3)).1; simp only [World.size_alloc] at this; exact this
      have hB2 := (((Below.refl w1.heap.size w1).alloc (Nat.le_refl _) (.cells #[.int .i64 k] 3)).alloc (by simp) (.cells #[.int .i64 2147483647] 3))
      obtain ⟨W2, hW2⟩ : ∃ W2, W2 = ((w1.alloc (.cells #[.int .i64 k] 3)).alloc (.cells #[.int .i64 2147483647] 3)) := ⟨_, rfl⟩
      rw [← hW2] at hO1 hO2 hB2
      rw [← hW2, ← hbb', ← hkb']
      have hne : kb ≠ bb := by omega
      have HLT := Lib.hid (show kb = w1.heap.size ∧ w1.heap.size ≤ bb from ⟨hkb', by omega⟩)
      have HO1 := Lib.hid hO1
      have HO2 := Lib.hid hO2
      have HB2 := Lib.hid hB2
      have HBW := Lib.hid (show Below w.heap.size w w1 by
        have hdB : Below w.heap.size w wr := by rw [← HGO.out]; exact HB.out
        exact hdB.trans (HB1.out.mono hdB.size))
      have enters41 : ∀ args w, (callFunc 41 args).run Try.prog w = .ok (.enter 41 args) w := enters_of Try.func41 (by kernel_rfl) rfl
      clear hO1 hO2 hB2 hW2 hbb' hkb'
      obtain ⟨B1, hB1⟩ : ∃ B1 : Bool, B1 = decide (t < D ∧ P.getD t never ≠ never) := ⟨_, rfl⟩
      have HB1E := Lib.hid hB1
      clear hB1
      have HX1 := Lib.hid (show t < D → W2.cell? ⟨pb, po + t, none⟩ = some (.int .i32 (P.getD t never)) ∧ (P.getD t never = never ∨ (0 ≤ P.getD t never ∧ P.getD t never ≤ 4096)) from fun h =>
        ⟨HPC.out W2 t (HBW.out.trans (HB2.out.mono HBW.out.size)) (by have := HD.out; omega), HPB.out t (by have := HD.out; omega)⟩)
      go_upto_region 9 with fail
      go_cut [55] (fun v55 wx => v55 = .bool B1 ∧ W2 = wx)
      case first =>
        by_cases h1 : t < D
        · obtain ⟨hx, hxb⟩ := HX1.out h1
          have htD : (t : Int) < D := by omega
          have HN := Lib.hid (show B1 = decide (P.getD t never ≠ never) by rw [HB1E.out]; simp only [h1, true_and])
          obtain ⟨x, hxe⟩ : ∃ x, x = P.getD t never := ⟨_, rfl⟩
          rw [← hxe] at hx HN
          clear hxe hxb
          have g1 : (x != 2147483647) = B1 := by rw [HN.out]; unfold never; simp [bne, BEq.beq]
          go_wp2_with fail
          go_meet
          exact ⟨rfl, rfl⟩
        · have g1 : decide ((t : Int) < D) = false := decide_eq_false (by omega)
          have HN := Lib.hid (show B1 = false by rw [HB1E.out]; exact decide_eq_false (fun h => h1 h.1))
          go_wp2_with fail
          go_meet
          exact ⟨by rw [HN.out], rfl⟩
      case rest =>
      obtain ⟨rfl, rfl⟩ := hcut
      go_upto_if 55 with fail
      go_cut [8] (fun v8 wx => v8 = .int .i64 t ∧ One wx kb (.int .i64 k) 3 ∧ One wx bb (.int .i64 (best1 k D P t)) 3 ∧ Below w1.heap.size w1 wx)
      case first =>
        cases B1 with
        | false =>
          have HN := Lib.hid (show best1 k D P t = never by unfold best1; rw [if_neg (of_decide_eq_false HB1E.out.symm)])
          go_wp2_with fail
          go_meet
          exact ⟨rfl, HO1.out, by rw [HN.out]; exact HO2.out, HB2.out⟩
        | true =>
          have h1 := of_decide_eq_true HB1E.out.symm
          have HN := Lib.hid (show best1 k D P t = try1 k never (P.getD t never - 1) by unfold best1; rw [if_pos h1])
          obtain ⟨hx, hxb⟩ := HX1.out h1.1
          have htD : (t : Int) < D := by have := h1.1; omega
          have hx0 : 0 ≤ P.getD t never ∧ P.getD t never ≤ 4096 := by rcases hxb with h | h; exact absurd h h1.2; exact h
          obtain ⟨x, hxe⟩ : ∃ x, x = P.getD t never := ⟨_, rfl⟩
          rw [← hxe] at hx hx0 HN
          clear hxe hxb h1
          have f1 : IntKind.i64.wrap x = x := IntWalk.i64_in _ (by omega)
          have f2 : IntKind.i64.wrap (x - 1) = x - 1 := IntWalk.i64_in _ (by omega)
          have HT := Lib.hid (try_own (x - 1) k 2147483647 kb bb W2 hne HO1.out HO2.out (by omega) hkb)
          go_wp2_with fail
          refine HT.out.mono ?_
          rintro e w3 ⟨rfl, h3, h4, h5⟩
          have H3 := Lib.hid h3
          have H4 := Lib.hid h4
          have H5 := Lib.hid (HB2.out.trans (h5 _ HLT.out.2))
          clear h3 h4 h5
          go_wp2_with fail
          go_meet
          exact ⟨rfl, H3.out, by rw [HN.out]; exact H4.out, H5.out⟩
      case rest =>
        obtain ⟨rfl, c1, c2, c3⟩ := hcut
        have HC1 := Lib.hid c1
        have HC2 := Lib.hid c2
        have HC3 := Lib.hid c3
        clear c1 c2 c3
        obtain ⟨B2, hB2⟩ : ∃ B2 : Bool, B2 = decide (0 < t ∧ P.getD (t - 1) never ≠ never) := ⟨_, rfl⟩
        have HB2E := Lib.hid hB2
        clear hB2
        have HX2 := Lib.hid (show 0 < t → wc.cell? ⟨pb, po + (t - 1), none⟩ = some (.int .i32 (P.getD (t - 1) never)) ∧ (P.getD (t - 1) never = never ∨ (0 ≤ P.getD (t - 1) never ∧ P.getD (t - 1) never ≤ 4096)) from fun h =>
          ⟨HPC.out wc (t - 1) (HBW.out.trans (HC3.out.mono HBW.out.size)) (by omega), HPB.out (t - 1) (by omega)⟩)
        obtain ⟨b1, hb1⟩ : ∃ b1, b1 = best1 k D P t := ⟨_, rfl⟩
        have HBT := Lib.hid (best_eq k D P t)
        rw [← hb1] at HC2 HBT
        clear hb1
        go_upto_region 11 with fail
        go_cut [73] (fun v73 wx => v73 = .bool B2 ∧ wc = wx)
        case first =>
          by_cases h1 : 0 < t
          · obtain ⟨hx, hxb⟩ := HX2.out h1
            obtain ⟨tm, htm⟩ : ∃ tm, tm = t - 1 := ⟨_, rfl⟩
            have f1 : IntKind.i64.wrap ((t : Int) - 1) = (tm : Int) := by rw [IntWalk.i64_in _ (by omega)]; omega
            have htD : (tm : Int) < D := by have := HD.out; omega
            have g0 : decide (0 < (t : Int)) = true := decide_eq_true (by omega)
            have HN := Lib.hid (show B2 = decide (P.getD (t - 1) never ≠ never) by rw [HB2E.out]; simp only [h1, true_and])
            rw [← htm] at hx HN
            obtain ⟨x, hxe⟩ : ∃ x, x = P.getD tm never := ⟨_, rfl⟩
            rw [← hxe] at hx HN
            clear hxe hxb htm
            have g1 : (x != 2147483647) = B2 := by rw [HN.out]; unfold never; simp [bne, BEq.beq]
            go_wp2_with fail
            go_meet
            exact ⟨rfl, rfl⟩
          · have g1 : decide (0 < (t : Int)) = false := decide_eq_false (by omega)
            have HN := Lib.hid (show B2 = false by rw [HB2E.out]; exact decide_eq_false (fun h => h1 h.1))
            go_wp2_with fail
            go_meet
            exact ⟨by rw [HN.out], rfl⟩
        case rest =>
        obtain ⟨rfl, rfl⟩ := hcut
        go_upto_if 73 with fail
        go_cut [8] (fun v8 wx => v8 = .int .i64 t ∧ One wx kb (.int .i64 k) 3 ∧ One wx bb (.int .i64 (best k D P t)) 3 ∧ Below w1.heap.size w1 wx)
        case first =>
          cases B2 with
          | false =>
            have HN := Lib.hid (show best k D P t = b1 by rw [HBT.out, if_neg (of_decide_eq_false HB2E.out.symm)])
            go_wp2_with fail
            go_meet
            exact ⟨rfl, HC1.out, by rw [HN.out]; exact HC2.out, HC3.out⟩
          | true =>
            have h1 := of_decide_eq_true HB2E.out.symm
            have HN := Lib.hid (show best k D P t = try1 k b1 (P.getD (t - 1) never) by rw [HBT.out, if_pos h1])
            obtain ⟨hx, hxb⟩ := HX2.out h1.1
            have hx0 : 0 ≤ P.getD (t - 1) never ∧ P.getD (t - 1) never ≤ 4096 := by rcases hxb with h | h; exact absurd h h1.2; exact h
            obtain ⟨tm, htm⟩ : ∃ tm, tm = t - 1 := ⟨_, rfl⟩
            have f1 : IntKind.i64.wrap ((t : Int) - 1) = (tm : Int) := by rw [IntWalk.i64_in _ (by omega)]; omega
            have htD : (tm : Int) < D := by have := HD.out; omega
            rw [← htm] at hx hx0 HN
            obtain ⟨x, hxe⟩ : ∃ x, x = P.getD tm never := ⟨_, rfl⟩
            rw [← hxe] at hx hx0 HN
            clear hxe hxb h1 htm
            have f2 : IntKind.i64.wrap x = x := IntWalk.i64_in _ (by omega)
            have HT := Lib.hid (try_own x k b1 kb bb wc hne HC1.out HC2.out (by omega) hkb)
            go_wp2_with fail
            refine HT.out.mono ?_
            rintro e w3 ⟨rfl, h3, h4, h5⟩
            have H3 := Lib.hid h3
            have H4 := Lib.hid h4
            have H5 := Lib.hid (HC3.out.trans (h5 _ HLT.out.2))
            clear h3 h4 h5
            go_wp2_with fail
            go_meet
            exact ⟨rfl, H3.out, by rw [HN.out]; exact H4.out, H5.out⟩
        case rest =>
        obtain ⟨rfl, c1, c2, c3⟩ := hcut
        have hEq : entry a b (d + 1) P t = if best k D P t ≠ never then (slide a b k (best k D P t).toNat : Int) else never := by
          unfold entry; rw [← HD.out, ← HK.out]
        have hSn : Snd a b (d + 1) k (best k D P t) := by have := HBS.out t htd; rw [← HD.out, ← HK.out] at this; rw [← HD.out]; exact this
        have hgl : go < w1.heap.size := by
          obtain ⟨g, cap, he, _, _, _, hlt⟩ := HR.out.some (by intro h0; rw [h0] at HOL; have := HOL.out; simp at this; omega)
          cases he; exact Nat.lt_of_lt_of_le hlt HB1.out.size
        obtain ⟨bt, hbt⟩ : ∃ bt, bt = best k D P t := ⟨_, rfl⟩
        rw [← hbt] at c2 hEq hSn
        have HEQ := Lib.hid hEq
        have HSN := Lib.hid hSn
        have htO : t < O.length := by rw [HOL.out]; exact ht
        have HRC := Lib.hid ((HR.out.below HB1.out).below (c3.mono (by omega) : Below w1.heap.size w1 wc))
        have d1 := num_at htO HRC.out
        have d2 := num_frozen htO HRC.out
        obtain ⟨r1, r2⟩ := num_set never htO HRC.out
        have HBC := Lib.hid (show Below go w wc from (HB.out.trans (HB1.out.mono (by rw [HGO.out]; exact (show w.heap.size ≤ wr.heap.size from by have := HB.out.size; omega)))).trans (c3.mono (by omega)))
        clear hbt hEq hSn
        have hkl := HLT.out.1
        have hbl := HLT.out.2
        have HX3 := Lib.hid (c1.other' ⟨go, t, none⟩ (v' := .int .i32 never) (by simp only; omega))
        have HX4 := Lib.hid (c2.other' ⟨go, t, none⟩ (v' := .int .i32 never) (by simp only; omega))
        have HR1 := Lib.hid r1
        have HBC1 := Lib.hid (HBC.out.trans r2)
        have HSZ := Lib.hid (show w1.heap.size ≤ (wc.setCell ⟨go, t, none⟩ (.int .i32 never)).heap.size from by have := c3.size; simp; omega)
        clear c1 c2 c3 r1 r2 hkl hbl
        go_upto_region 14 with fail
        clear d1 d2
        obtain ⟨X1, hX1⟩ : ∃ X1, X1 = wc.setCell ⟨go, t, none⟩ (.int .i32 2147483647) := ⟨_, rfl⟩
        rw [← hX1]
        rw [show wc.setCell ⟨go, t, none⟩ (.int .i32 never) = X1 from hX1.symm] at HX3 HX4 HR1 HBC1 HSZ
        clear hX1
        have e3 := HX3.out.cell
        have e4 := HX4.out.cell
        by_cases hnv : bt = never
        · have HEN := Lib.hid (show entry a b (d + 1) P t = never by rw [HEQ.out, if_neg (by simpa using hnv)])
          have g1 : (bt != 2147483647) = false := by rw [hnv]; rfl
          clear hnv
          go_wp2
          go_roundg (gk - 1)
          case measure => have := HG.out; omega
          case rel => exact ⟨t + 1, O.set t never, by have := HG.out; omega, by go_num, by rw [List.length_set]; exact HOL.out, set_entry O t never _ htO HO.out HEN.out.symm, HR1.out, HBC1.out⟩
        · obtain ⟨q1, q2, q3, q4, _⟩ := HSN.out hnv
          have g1 : (bt != 2147483647) = true := by unfold never at hnv; simpa using hnv
          obtain ⟨m, hm⟩ : ∃ m : Nat, bt = m := ⟨bt.toNat, by omega⟩
          subst hm
          have HEN := Lib.hid (show entry a b (d + 1) P t = (slide a b k m : Int) by rw [HEQ.out, if_pos hnv, Int.toNat_natCast])
          have HSX := Lib.hid (HS.out.below (show Below w.heap.size w X1 by rw [← HGO.out]; exact HBC1.out))
          have HSL := Lib.hid (slide_any s a b m k X1 HSX.out ha hb (by omega) q4 (by omega))
          obtain ⟨x, hx⟩ : ∃ x, x = slide a b k m := ⟨_, rfl⟩
          rw [← hx] at HEN HSL
          clear hx hnv q1 q2 q3 q4
          go_wp2_with fail
          refine HSL.out.mono ?_
          rintro e w5 ⟨rfl, hb5⟩
          have HR5 := Lib.hid (HR1.out.below hb5)
          have HB5 := Lib.hid (HBC1.out.trans (hb5.mono (by have := HSZ.out; omega)))
          have htO' : t < (O.set t never).length := by rw [List.length_set]; exact htO
          have d1 := num_at htO' HR5.out
          have d2 := num_frozen htO' HR5.out
          obtain ⟨r1, r2⟩ := num_set (x : Int) htO' HR5.out
          rw [List.set_set] at r1
          have HR6 := Lib.hid r1
          have HB6 := Lib.hid (HB5.out.trans r2)
          clear hb5 r1 r2 e3 e4
          go_wp2
          go_roundg (gk - 1)
          case measure => have := HG.out; omega
          case rel => exact ⟨t + 1, O.set t (x : Int), by have := HG.out; omega, by go_num, by rw [List.length_set]; exact HOL.out, set_entry O t (x : Int) _ htO HO.out HEN.out.symm, HR6.out, HB6.out⟩
    · have HTE := Lib.hid (show t = M by have := HG.out; omega)
      have HOE := Lib.hid (show O = Q from HPX.out O (by rw [HOL.out, HM.out, HD.out]) (fun t' h => HO.out t' (by rw [HTE.out, HM.out, HD.out]; omega)))
      go_wp2
      go_ret
      exact ⟨_, rfl, by rw [← HOE.out, ← HGO.out]; exact HR.out, by rw [← HGO.out]; exact HB.out⟩
end Go.Proofs.Ytipoifokcnbfnaa
