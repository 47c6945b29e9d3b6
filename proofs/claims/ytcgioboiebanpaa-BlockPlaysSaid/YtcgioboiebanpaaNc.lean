/- Runs in memory; meets. -/
import Derived.Test.YtcgioboiebanpaaHd
namespace Go.Proofs.Ytcgioboiebanpaa
open Go.RowKit
set_option linter.unusedVariables false

/-- A run as its cells hold it: key, the runes' slice, dead. -/
abbrev RV := (Int × List UInt8 × Int) × (Option Addr × Nat × Nat) × Bool
def runB (x : RV) : Array Value := keyB x.1.1 x.1.2.1 x.1.2.2 ++ #[.slice x.2.1.1 x.2.1.2.1 x.2.1.2.2, .bool x.2.2]
theorem runB_list (x : RV) : (runB x).toList = [Value.int .i64 x.1.1] ++ Lib.byteCells x.1.2.1 ++ [.int .i64 x.1.2.2, .slice x.2.1.1 x.2.1.2.1 x.2.1.2.2, .bool x.2.2] := by simp [runB, keyB_list]
theorem runB_size (x : RV) (h : x.1.2.1.length = 32) : (runB x).size = 36 := by rw [← Array.length_toList, runB_list]; simp [Lib.byteCells, h]
def runR : Rec RV where
  enc x := (runB x).toList
  sz := 36
  ok x := x.1.2.1.length = 32
  pos := by decide
  len x h := by rw [Array.length_toList]; exact runB_size x h
  one x h u hu := by
    rw [runB_list] at hu
    simp only [List.mem_append, List.mem_cons, List.not_mem_nil, or_false] at hu
    rcases hu with (rfl | hu) | rfl | rfl | rfl
    · rfl
    · obtain ⟨c, _, rfl⟩ := List.mem_map.1 hu; rfl
    · rfl
    · rfl
    · rfl
/-- What stands at a run's cells. -/
structure RunAt (w : World) (b o : Nat) (x : RV) : Prop where
  f : fits w ⟨b, o, none⟩ 36
  t : w.cell? ⟨b, o, none⟩ = some (.int .i64 x.1.1)
  cf : fits w ⟨b, o + 1, none⟩ 32
  ca : aggAt w ⟨b, o + 1, none⟩ 32 = idB x.1.2.1
  i : w.cell? ⟨b, o + 33, none⟩ = some (.int .i64 x.1.2.2)
  r : w.cell? ⟨b, o + 34, none⟩ = some (.slice x.2.1.1 x.2.1.2.1 x.2.1.2.2)
  d : w.cell? ⟨b, o + 35, none⟩ = some (.bool x.2.2)
theorem RunAt.of {w : World} {b o : Nat} {x : RV} (h32 : x.1.2.1.length = 32) (hf : fits w ⟨b, o, none⟩ 36) (ha : aggAt w ⟨b, o, none⟩ 36 = runB x) : RunAt w b o x := by
  have hg : ∀ j, j < 36 → w.cell? ⟨b, o + j, none⟩ = (runB x).toList[j]? := fun j hj => by
    rw [aggAt_get hf hj, ha, Array.getElem?_toList]
  have hb : (Lib.byteCells x.1.2.1).length = 32 := by simp [Lib.byteCells, h32]
  have hf2 : fits w ⟨b, o + 1, none⟩ 32 := by
    obtain ⟨h1, c, e, f, h2, h3⟩ := hf
    exact ⟨h1, c, e, f, h2, by simp only at h3 ⊢; omega⟩
  refine ⟨hf, ?_, hf2, ?_, ?_, ?_, ?_⟩
  · have := hg 0 (by decide)
    rw [Nat.add_zero, runB_list] at this
    rw [this]; rfl
  · apply Array.ext_getElem?
    intro j
    by_cases hj : j < 32
    · have h1 := aggAt_get hf2 hj
      have h2 := hg (1 + j) (by omega)
      rw [← Nat.add_assoc] at h2
      rw [← h1, h2, runB_list, idB]
      rw [List.append_assoc, List.getElem?_append_right (by simp)]
      rw [List.getElem?_append_left (by simp [hb]; omega)]
      simp
    · rw [Array.getElem?_eq_none (by rw [aggAt_size hf2]; omega), Array.getElem?_eq_none (by rw [idB_size, h32]; omega)]
  · rw [hg 33 (by decide), runB_list, List.append_assoc, List.getElem?_append_right (by simp), List.getElem?_append_right (by simp [hb])]
    simp [hb]
  · rw [hg 34 (by decide), runB_list, List.append_assoc, List.getElem?_append_right (by simp), List.getElem?_append_right (by simp [hb])]
    simp [hb]
  · rw [hg 35 (by decide), runB_list, List.append_assoc, List.getElem?_append_right (by simp), List.getElem?_append_right (by simp [hb])]
    simp [hb]
theorem RunAt.box (w : World) (x : RV) (h32 : x.1.2.1.length = 32) : RunAt (w.alloc (.cells (runB x) 70)) w.heap.size 0 x :=
  RunAt.of h32 (fits_new w (runB x) 70 36 (runB_size x h32)) (aggAt_new w (runB x) 70 36 (runB_size x h32))
theorem RunAt.at {w : World} {b o : Nat} {x : RV} (h32 : x.1.2.1.length = 32) (h : runR.At w ⟨b, o, none⟩ x) : RunAt w b o x := by
  obtain ⟨h1, h2⟩ := h
  refine RunAt.of h32 h1 ?_
  apply Array.ext'
  have h3 : (aggAt w ⟨b, o, none⟩ 36) = (runR.enc x).toArray := h2
  rw [h3]; rfl
theorem RunAt.below {w w' : World} {b o : Nat} {x : RV} (h : RunAt w b o x) (hb : Below w.heap.size w w') : RunAt w' b o x := by
  have hl : b < w.heap.size := h.f.lt
  have e := hb.block b hl
  exact ⟨fits_of_block (a := ⟨b, o, none⟩) e h.f, (hb.cell (p := ⟨b, o, none⟩) hl).trans h.t, fits_of_block (a := ⟨b, o + 1, none⟩) e h.cf, (aggAt_of_block (a := ⟨b, o + 1, none⟩) e).trans h.ca, (hb.cell (p := ⟨b, o + 33, none⟩) hl).trans h.i, (hb.cell (p := ⟨b, o + 34, none⟩) hl).trans h.r, (hb.cell (p := ⟨b, o + 35, none⟩) hl).trans h.d⟩
end Go.Proofs.Ytcgioboiebanpaa

namespace Go.Proofs.Ytcgioboiebanpaa
open Go.RowKit
set_option linter.unusedVariables false

/-- Two boxes: a run, a key. -/
theorem box_rk (w : World) (x : RV) (kt : Int) (kc : List UInt8) (ki : Int) (hx : x.1.2.1.length = 32) (hk : kc.length = 32) (W : World) (hW : W = (w.alloc (.cells (runB x) 70)).alloc (.cells (keyB kt kc ki) 26)) (b1 b2 : Nat) (h1 : b1 = w.heap.size) (h2 : b2 = w.heap.size + 1) :
    Below w.heap.size w W ∧ RunAt W b1 0 x ∧ KeyAt W b2 kt kc ki := by
  have q1 := (Below.refl w.heap.size w).alloc (Nat.le_refl _) (.cells (runB x) 70)
  have q2 := (Below.refl (w.alloc (.cells (runB x) 70)).heap.size (w.alloc (.cells (runB x) 70))).alloc (Nat.le_refl _) (.cells (keyB kt kc ki) 26)
  subst hW h1 h2
  refine ⟨q1.trans (q2.mono q1.size), (RunAt.box w x hx).below q2, ?_⟩
  have := (MapKept.heap_alloc (w.alloc (.cells (runB x) 70)) (.cells (keyB kt kc ki) 26)).1
  rwa [World.size_alloc] at this
/-- What meets says. -/
def meetsB (x : RV) (kt : Int) (kc : List UInt8) (ki n : Int) : Bool :=
  decide (x.1.1 = kt) && (x.1.2.1 == kc) && decide (x.1.2.2 < wrap64 (ki + n)) && decide (ki < wrap64 (x.1.2.2 + x.2.1.2.1))
set_option maxHeartbeats 2000000 in
set_option maxRecDepth 100000 in
theorem meets_any (x : RV) (kt : Int) (kc : List UInt8) (ki n : Int) (hx : x.1.2.1.length = 32) (hk : kc.length = 32) (w : World) :
    Calls Try.prog 46 #[.agg (runB x), .agg (keyB kt kc ki), .int .i64 n] w fun e w' => e = .returned (.bool (meetsB x kt kc ki n)) ∧ Below w.heap.size w w' := by
  obtain ⟨W, hW⟩ : ∃ W, W = (w.alloc (.cells (runB x) 70)).alloc (.cells (keyB kt kc ki) 26) := ⟨_, rfl⟩
  obtain ⟨b1, hb1⟩ : ∃ b, b = w.heap.size := ⟨_, rfl⟩
  obtain ⟨b2, hb2⟩ : ∃ b, b = w.heap.size + 1 := ⟨_, rfl⟩
  obtain ⟨hq, hr, hkk⟩ := box_rk w x kt kc ki hx hk W hW b1 b2 hb1 hb2
  have HM := Lib.hid (show meetsB x kt kc ki n = (decide (x.1.1 = kt) && (x.1.2.1 == kc) && decide (x.1.2.2 < wrap64 (ki + n)) && decide (ki < wrap64 (x.1.2.2 + x.2.1.2.1))) from rfl)
  obtain ⟨MB, hMB⟩ : ∃ MB, MB = meetsB x kt kc ki n := ⟨_, rfl⟩
  rw [← hMB] at HM ⊢
  clear hMB
  obtain ⟨⟨xt, xc, xi⟩, ⟨xa, xn, xk⟩, xd⟩ := x
  have HQ := Lib.hid hq
  have r1 := hr.t
  have r2 := hr.cf
  have r3 := hr.ca
  have r4 := hr.i
  have r5 := hr.r
  have k1 := hkk.c0
  have k2 := hkk.fits hk
  have k3 := hkk.agg hk
  have k4 := hkk.c33 hk
  simp only [Nat.zero_add] at r1 r2 r3 r4 r5 hx HM
  clear hq hr hkk
  go_enter Try.func46, Try.ntmps46
  go_upto_region 1 with fail
  rw [← hW, ← hb2, ← hb1]
  clear hW hb1 hb2
  by_cases c1 : xt = kt
  case neg =>
    have HE := Lib.hid (show MB = false by rw [HM.out, decide_eq_false c1]; rfl)
    have d1 : (xt == kt) = false := beq_eq_false_iff_ne.2 c1
    clear HM
    go_wp2
    go_ret
    exact ⟨ret_bool HE.out.symm, HQ.out⟩
  case pos =>
    subst c1
    cases c2 : (xc == kc) with
    | false =>
      have HE := Lib.hid (show MB = false by rw [HM.out, c2]; simp)
      clear HM
      go_wp2
      go_ret
      exact ⟨ret_bool HE.out.symm, HQ.out⟩
    | true =>
      by_cases c3 : xi < wrap64 (ki + n)
      case neg =>
        have HE := Lib.hid (show MB = false by rw [HM.out, decide_eq_false c3]; simp)
        clear HM
        go_wp2
        go_ret
        exact ⟨ret_bool HE.out.symm, HQ.out⟩
      case pos =>
        have HE := Lib.hid (show MB = decide (ki < wrap64 (xi + xn)) by rw [HM.out, c2, decide_eq_true c3]; simp)
        clear HM
        go_wp2
        go_ret
        exact ⟨ret_bool HE.out.symm, HQ.out⟩
end Go.Proofs.Ytcgioboiebanpaa

namespace Go.Proofs.Ytcgioboiebanpaa
open Go.RowKit
set_option linter.unusedVariables false

def holdsN (x : RV) (ki : Int) : Int := wrap64 (ki - x.1.2.2)
def holdsB (x : RV) (kt : Int) (kc : List UInt8) (ki : Int) : Bool := decide (x.1.1 = kt) && (x.1.2.1 == kc) && decide (0 ≤ holdsN x ki) && decide (holdsN x ki < x.2.1.2.1)
set_option maxHeartbeats 2000000 in
set_option maxRecDepth 100000 in
theorem holds_any (x : RV) (kt : Int) (kc : List UInt8) (ki : Int) (hx : x.1.2.1.length = 32) (hk : kc.length = 32) (w : World) :
    Calls Try.prog 40 #[.agg (runB x), .agg (keyB kt kc ki)] w fun e w' => e = .returned (.tuple #[.int .i64 (holdsN x ki), .bool (holdsB x kt kc ki)]) ∧ Below w.heap.size w w' := by
  obtain ⟨W, hW⟩ : ∃ W, W = (w.alloc (.cells (runB x) 70)).alloc (.cells (keyB kt kc ki) 26) := ⟨_, rfl⟩
  obtain ⟨b1, hb1⟩ : ∃ b, b = w.heap.size := ⟨_, rfl⟩
  obtain ⟨b2, hb2⟩ : ∃ b, b = w.heap.size + 1 := ⟨_, rfl⟩
  obtain ⟨hq, hr, hkk⟩ := box_rk w x kt kc ki hx hk W hW b1 b2 hb1 hb2
  have HM := Lib.hid (show holdsB x kt kc ki = (decide (x.1.1 = kt) && (x.1.2.1 == kc) && decide (0 ≤ wrap64 (ki - x.1.2.2)) && decide (wrap64 (ki - x.1.2.2) < x.2.1.2.1)) from rfl)
  obtain ⟨MB, hMB⟩ : ∃ MB, MB = holdsB x kt kc ki := ⟨_, rfl⟩
  rw [← hMB] at HM ⊢
  clear hMB
  rw [show holdsN x ki = wrap64 (ki - x.1.2.2) from rfl]
  obtain ⟨⟨xt, xc, xi⟩, ⟨xa, xn, xk⟩, xd⟩ := x
  have HQ := Lib.hid hq
  have r1 := hr.t
  have r2 := hr.cf
  have r3 := hr.ca
  have r4 := hr.i
  have r5 := hr.r
  have k1 := hkk.c0
  have k2 := hkk.fits hk
  have k3 := hkk.agg hk
  have k4 := hkk.c33 hk
  have q7 := r2.lt
  have q8 := k2.lt
  simp only [Nat.zero_add] at r1 r2 r3 r4 r5 hx HM q7 q8
  clear hq hr hkk
  go_enter Try.func40, Try.ntmps40
  go_upto_region 1 with fail
  rw [← hW, ← hb2, ← hb1]
  clear hW hb1 hb2
  go_wp2_with fail
  generalize hnn : wrap64 (ki - xi) = nn at *
  have HN := Lib.hid hnn
  clear hnn
  by_cases c1 : xt = kt
  case neg =>
    have HE := Lib.hid (show MB = false by rw [HM.out, decide_eq_false c1]; rfl)
    have d1 : (xt == kt) = false := beq_eq_false_iff_ne.2 c1
    have d2 : decide (xt = kt) = false := decide_eq_false c1
    clear HM
    refine wp_region_over (by kernel_rfl) (by kernel_rfl) ?_
    repeat (go_big_quiet_step (fail))
    refine wpQuiet_nil ?_
    rintro _ ⟨z0, rfl⟩
    go_wp2
    go_ret2
    exact ⟨by rw [HN.out, HE.out]; rfl, HQ.out.trans ((ov_below W z0).mono HQ.out.size)⟩
  case pos =>
    subst c1
    cases c2 : (xc == kc) with
    | false =>
      have HE := Lib.hid (show MB = false by rw [HM.out, c2]; simp)
      clear HM
      refine wp_region_over (by kernel_rfl) (by kernel_rfl) ?_
      repeat (go_big_quiet_step (fail))
      refine wpQuiet_nil ?_
      rintro _ ⟨z0, rfl⟩
      go_wp2
      go_ret2
      exact ⟨by rw [HN.out, HE.out]; rfl, HQ.out.trans ((ov_below W z0).mono HQ.out.size)⟩
    | true =>
      by_cases c3 : nn < 0
      · have HE := Lib.hid (show MB = false by rw [HM.out, decide_eq_false (show ¬ 0 ≤ nn by omega)]; simp)
        have d3 : ¬ 0 ≤ nn := by omega
        have d4 : decide (0 ≤ nn) = false := decide_eq_false d3
        have d5 : decide (nn < 0) = true := decide_eq_true c3
        clear HM
        refine wp_region_over (by kernel_rfl) (by kernel_rfl) ?_
        repeat (go_big_quiet_step (fail))
        refine wpQuiet_nil ?_
        rintro _ ⟨z0, rfl⟩
        go_wp2
        go_ret2
        exact ⟨by rw [HN.out, HE.out]; rfl, HQ.out.trans ((ov_below W z0).mono HQ.out.size)⟩
      · have d3 : 0 ≤ nn := by omega
        have d4 : decide (0 ≤ nn) = true := decide_eq_true d3
        have d5 : decide (nn < 0) = false := decide_eq_false c3
        have HE := Lib.hid (show MB = decide (nn < xn) by rw [HM.out, c2, d4]; simp)
        clear HM
        refine wp_region_over (by kernel_rfl) (by kernel_rfl) ?_
        repeat (go_big_quiet_step (fail))
        refine wpQuiet_nil ?_
        rintro _ ⟨z0, rfl⟩
        go_wp2
        go_ret2
        exact ⟨by rw [HN.out, HE.out]; rfl, HQ.out.trans ((ov_below W z0).mono HQ.out.size)⟩
end Go.Proofs.Ytcgioboiebanpaa
