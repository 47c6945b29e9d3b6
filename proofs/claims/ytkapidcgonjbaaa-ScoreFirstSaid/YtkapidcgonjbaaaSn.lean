/- Mean, Shares, Same. -/
import Derived.Test.YtkapidcgonjbaaaSm
namespace Go.Proofs.Ytkapidcgonjbaaa
open Go.RowKit
set_option linter.unusedVariables false

set_option maxHeartbeats 1000000 in
set_option maxRecDepth 100000 in
theorem mean_any (a : Option Addr) (cap : Nat) (l : List Nat) (w : World) (hm : l.length ≤ 1000000) (hin : fltR.In w a l) :
    Calls Try.prog 31 #[.slice a l.length cap] w fun e w' => ∃ s m n, e = .returned (.float .f64 m) ∧ SumFrom 0 l s ∧ isQ s (floatOfInt .f64 l.length) m ∧ w' = w.drewN n := by
  have HS := Lib.hid (sum_any a cap l w hm hin)
  clear hin
  go_enter Try.func31, Try.ntmps31
  go_wp2_with fail
  refine HS.out.mono ?_
  rintro e w1 ⟨s, n, rfl, hs, rfl⟩
  have H := Lib.hid hs
  have HQ := Lib.hid (quo_isQ s (floatOfInt .f64 l.length) (w.drewN n))
  clear hs HS
  go_wp2
  go_ret
  exact ⟨s, _, _, rfl, H.out, HQ.out, rfl⟩

theorem flt_frozen {w : World} {base g l c k : Nat} {O : List Nat} (hk : k < O.length) (h : fltR.row 23 base O (.slice (some ⟨g, 0, none⟩) l c) w) : w.frozen? ⟨g, k, none⟩ = false := by
  obtain ⟨_, cur, e, hh, hl⟩ := h.fitsW hk
  simp only at hh
  simp [World.frozen?, hh]
theorem flt_set {w : World} {base g l c k : Nat} {O : List Nat} (x : Nat) (hx : x < 18446744073709551616) (hk : k < O.length) (h : fltR.row 23 base O (.slice (some ⟨g, 0, none⟩) l c) w) :
    fltR.row 23 base (O.set k x) (.slice (some ⟨g, 0, none⟩) l c) (w.setCell ⟨g, k, none⟩ (.float .f64 x)) ∧ Below base w (w.setCell ⟨g, k, none⟩ (.float .f64 x)) := by
  obtain ⟨_, cur, e, hh, hl⟩ := h.fitsW hk
  have hp := h.put (x := x) hx hk
  simp only [show k * fltR.sz = k from Nat.mul_one k] at hp hh hl
  have he : putC w ⟨g, k, none⟩ (fltR.enc x).toArray = w.setCell ⟨g, k, none⟩ (.float .f64 x) := by
    have hl' : k + 1 ≤ cur.size := hl
    rw [setCell_eq_setRow w g k cur e (0, 0) _ hh]
    unfold putC
    simp only [hh]
    congr 1
    apply Array.ext'
    simp only [fltR, List.size_toArray, List.length_cons, List.length_nil, Array.toList_setIfInBounds]
    rw [List.set_eq_take_append_cons_drop, if_pos (by simp; omega)]
    simp
  rw [he] at hp
  exact hp
theorem int_cellF {w : World} {base g l c k : Nat} {O : List Nat} (hk : k < O.length) (h : fltR.row 23 base O (.slice (some ⟨g, 0, none⟩) l c) w) : w.cell? ⟨g, k, none⟩ = some (.float .f64 (O.getD k 0)) := by
  have hx : O[k]? = some (O.getD k 0) := by simp [List.getD_eq_getElem?_getD, hk]
  have h1 := flt_cell (o := 0) (k := k) (by have := h.at hx; rw [Nat.zero_add]; exact this)
  rwa [Nat.zero_add] at h1
theorem made_flts (n : Nat) : madeCells #[.float .f64 0] n = (fltR.cells (List.replicate n 0)).toArray := by
  apply Array.ext'
  rw [List.toList_toArray, toList_madeCells_one]
  induction n with
  | zero => rfl
  | succ n ih => rw [List.replicate_succ, List.replicate_succ, Rec.cells_cons, ih]; rfl
theorem flts_new {w : World} {g n : Nat} (base : Nat) (hb : base ≤ g) (hn : n ≤ 1000000) (hg : w.heap[g]? = some (.cells (madeCells #[.float .f64 0] n) 23)) : fltR.row 23 base (List.replicate n 0) (.slice (some ⟨g, 0, none⟩) n n) w := by
  have hok : ∀ x ∈ List.replicate n 0, fltR.ok x := fun x hx => by rw [(List.mem_replicate.1 hx).2]; exact (by decide : 0 < 18446744073709551616)
  have hc : (fltR.cells (List.replicate n 0)).length = n := by
    rw [fltR.cells_length _ hok, List.length_replicate]; exact Nat.mul_one n
  have hz : fltR.sz = 1 := rfl
  rw [made_flts] at hg
  refine ⟨hok, by rw [hc, List.length_replicate, hz, Nat.mul_one], .inr ⟨g, n, _, by rw [List.length_replicate], hb, hg, by rw [List.length_replicate]; exact Nat.le_refl _, by unfold maxLen; omega, by rw [List.size_toArray, hc, hz, Nat.mul_one], ?_⟩⟩
  rw [List.toList_toArray, List.length_replicate, hz, Nat.mul_one]
  exact List.take_of_length_le (by rw [hc]; exact Nat.le_refl _)
theorem info23 : (Try.prog.info? 23).map (fun i => (i.zero, i.size, i.bytes)) = some (some (.float .f64 0), 1, 8) := by kernel_rfl
@[go_sem ↓] theorem mk30 (n : Nat) (h : n ≤ 1000000) (w : World) : (Instr.makeSlice 30 (.int .i64 (n : Int)) (.int .i64 (n : Int))).run Try.prog w = .ok (.slice (some ⟨w.heap.size, 0, none⟩) n n) (w.alloc (.cells (madeCells #[.float .f64 0] n) 23)) := by
  have h4 := info23
  cases hi : Try.prog.info? 23 with
  | none => rw [hi] at h4; cases h4
  | some i =>
    rw [hi] at h4
    simp at h4
    obtain ⟨z0, z1, z2⟩ := h4
    have := run_make (P := Try.prog) w 30 23 i _ Try.underlying30 hi z0 .i64 .i64 n n (by omega) (Int.le_refl _) (by rw [z2]; omega) (by omega)
    rw [this, z1]
    simp [Value.cells]

/-- Each part of l in s, up to k. -/
def Parts (l : List Nat) (s : Nat) (k : Nat) (P : List Nat) : Prop := ∀ i, i < k → isQ (l.getD i 0) s (P.getD i 0)

set_option maxHeartbeats 2000000 in
set_option maxRecDepth 100000 in
theorem shares_any (a : Option Addr) (cap : Nat) (l : List Nat) (w : World) (hm : l.length ≤ 1000000) (hin : fltR.In w a l) :
    Calls Try.prog 33 #[.slice a l.length cap] w fun e w' => ∃ s v P, e = .returned v ∧ SumFrom 0 l s ∧ P.length = l.length ∧ Parts l s l.length P ∧ fltR.row 23 w.heap.size P v w' ∧ Below w.heap.size w w' := by
  have HS := Lib.hid (sum_any a cap l w hm hin)
  have HI := Lib.hid hin
  clear hin
  go_enter Try.func33, Try.ntmps33
  go_wp2_with fail
  refine HS.out.mono ?_
  rintro e w1 ⟨s, n, rfl, hs, hw1⟩
  have H := Lib.hid hs
  have HB1 := Lib.hid (show Below w.heap.size w w1 by rw [hw1]; exact below_drewN (Below.refl _ _) n)
  have HI1 := Lib.hid (HI.out.below HB1.out)
  clear hs HS hw1
  obtain ⟨W2, hW2⟩ : ∃ W2, W2 = w1.alloc (.cells (madeCells #[.float .f64 0] l.length) 23) := ⟨_, rfl⟩
  have hg : W2.heap[w1.heap.size]? = some (.cells (madeCells #[.float .f64 0] l.length) 23) := by rw [hW2]; exact (MapKept.heap_alloc w1 _).1
  have HR2 := Lib.hid (flts_new w1.heap.size (Nat.le_refl _) hm hg)
  have HB2 := Lib.hid (show Below w1.heap.size w1 W2 by rw [hW2]; exact (Below.refl _ _).alloc (Nat.le_refl _) _)
  have HW2 := Lib.hid hW2
  clear hg hW2
  go_upto_region 3 with fail
  rw [← HW2.out]
  clear HW2
  go_wp2_with fail
  go_loopg [14] l.length (fun g v14 wr => ∃ (k : Nat) (P : List Nat), g + k = l.length ∧ v14 = .int .i64 k ∧ P.length = l.length ∧ Parts l s k P ∧ fltR.row 23 w1.heap.size P (.slice (some ⟨w1.heap.size, 0, none⟩) l.length l.length) wr ∧ Below w1.heap.size w1 wr)
  case atStart => exact ⟨0, _, by omega, rfl, by simp, fun i hi => by omega, HR2.out, HB2.out⟩
  case round =>
    obtain ⟨k, P, hg, rfl, hP, hpt, hr, hb⟩ := hrel
    have HG := Lib.hid hg
    have HP := Lib.hid hP
    have HPT := Lib.hid hpt
    have HR := Lib.hid hr
    have HB := Lib.hid hb
    clear hg hP hpt hr hb
    by_cases hk : k < l.length
    · rcases HI1.out.2 with h | ⟨b, off, rfl, hlt, hc⟩
      · subst h; simp at hk
      have hxk : l[k]? = some (l.getD k 0) := by simp [List.getD_eq_getElem?_getD, hk]
      have e1 := flt_cell ((hc k _ hxk).below HB.out)
      have hkP : k < P.length := by rw [HP.out]; exact hk
      have hPk : P[k]? = some (P.getD k 0) := by simp [List.getD_eq_getElem?_getD, hkP]
      have HLX := Lib.hid (show l.getD k 0 = l.getD k 0 from rfl)
      obtain ⟨x, hx⟩ : ∃ x, x = l.getD k 0 := ⟨_, rfl⟩
      rw [← hx] at e1
      have HX := Lib.hid hx
      have i1 : (k : Int) < l.length := by omega
      have hbl : b < wr.heap.size := Nat.lt_of_lt_of_le hlt HB.out.size
      have HQ := Lib.hid (quo_isQ x s wr)
      obtain ⟨y, hy⟩ : ∃ y, y = quoV x s wr := ⟨_, rfl⟩
      rw [← hy] at HQ
      obtain ⟨wz, hwz⟩ : ∃ wz, wz = wr.drewN (quoN x s) := ⟨_, rfl⟩
      have HRz := Lib.hid (show fltR.row 23 w1.heap.size P (.slice (some ⟨w1.heap.size, 0, none⟩) l.length l.length) wz by rw [hwz]; exact HR.out.below (below_drewN (Below.refl _ _) _))
      have HBz := Lib.hid (show Below w1.heap.size w1 wz by rw [hwz]; exact below_drewN HB.out _)
      have e2 := int_cellF hkP HR.out
      have e3 := flt_frozen hkP HR.out
      have HSET := Lib.hid (flt_set y HQ.out.1 hkP HRz.out)
      clear hc hxk hPk hx HLX
      go_wp2
      rw [← hy, ← hwz]
      go_roundg (gk - 1)
      case measure => have := HG.out; omega
      case rel =>
        refine ⟨k + 1, P.set k y, by have := HG.out; omega, by go_num, by rw [List.length_set, HP.out], ?_, HSET.out.1, HBz.out.trans HSET.out.2⟩
        intro i hi
        by_cases hik : i = k
        · subst hik
          rw [← HX.out, show (P.set i y).getD i 0 = y by simp [List.getD_eq_getElem?_getD, hkP]]
          exact HQ.out
        · rw [show (P.set k y).getD i 0 = P.getD i 0 by simp [List.getD_eq_getElem?_getD, List.getElem?_set_ne (Ne.symm hik)]]
          exact HPT.out i (by omega)
    · have HE := Lib.hid (show k = l.length by have := HG.out; omega)
      go_wp2
      go_ret
      exact ⟨s, _, P, rfl, H.out, HP.out, by have := HPT.out; rw [HE.out] at this; exact this, HR.out.base HB1.out.size, HB1.out.trans (HB.out.mono HB1.out.size)⟩
end Go.Proofs.Ytkapidcgonjbaaa
