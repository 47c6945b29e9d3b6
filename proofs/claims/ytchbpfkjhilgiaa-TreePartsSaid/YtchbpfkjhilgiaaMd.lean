/- SortKeys. -/
import Derived.Test.YtchbpfkjhilgiaaMc
namespace Go.Proofs.Ytchbpfkjhilgiaa
open Go.RowKit
set_option linter.unusedVariables false

theorem made_ints (n : Nat) : (madeCells #[.int .i64 0] (n * 1)).toList = intR.cells (List.replicate n 0) := by
  rw [Nat.mul_one, toList_madeCells_one]
  induction n with
  | zero => rfl
  | succ n ih => rw [List.replicate_succ, List.replicate_succ, Rec.cells_cons, ih]; rfl

theorem int_frozen {w : World} {base g l c k : Nat} {O : List Int} (hk : k < O.length) (h : intR.row 3 base O (.slice (some ⟨g, 0, none⟩) l c) w) : w.frozen? ⟨g, k, none⟩ = false := by
  obtain ⟨_, cur, e, hh, hl⟩ := h.fitsW hk
  simp only at hh
  simp [World.frozen?, hh]
theorem int_set {w : World} {base g l c k : Nat} {O : List Int} (x : Int) (hk : k < O.length) (h : intR.row 3 base O (.slice (some ⟨g, 0, none⟩) l c) w) :
    intR.row 3 base (O.set k x) (.slice (some ⟨g, 0, none⟩) l c) (w.setCell ⟨g, k, none⟩ (.int .i64 x)) ∧ Below base w (w.setCell ⟨g, k, none⟩ (.int .i64 x)) := by
  obtain ⟨_, cur, e, hh, hl⟩ := h.fitsW hk
  have hp := h.put (x := x) trivial hk
  simp only [show k * intR.sz = k from Nat.mul_one k] at hp hh hl
  have he : putC w ⟨g, k, none⟩ (intR.enc x).toArray = w.setCell ⟨g, k, none⟩ (.int .i64 x) := by
    have hl' : k + 1 ≤ cur.size := hl
    rw [setCell_eq_setRow w g k cur e (0, 0) _ hh]
    unfold putC
    simp only [hh]
    congr 1
    apply Array.ext'
    simp only [intR, List.size_toArray, List.length_cons, List.length_nil, Array.toList_setIfInBounds]
    rw [List.set_eq_take_append_cons_drop, if_pos (by simp; omega)]
    simp
  rw [he] at hp
  exact hp

theorem info3 : (Try.prog.info? 3).map (fun i => (i.zero, i.size, i.bytes)) = some (some (.int .i64 0), 1, 8) := by kernel_rfl

set_option maxHeartbeats 2000000 in
set_option maxRecDepth 100000 in
theorem sortKeys_any (a : Option Addr) (cap : Nat) (ks : List Key) (w : World) (hm : ks.length ≤ 1000000) (hin : keyR.In w a ks) (hcm : cap ≤ maxLen) (hcap : ks.length ≤ cap) :
    Calls Try.prog 24 #[.slice a ks.length cap] w fun e w' => ∃ v, e = .returned v ∧ intR.row 3 w.heap.size (mergeI (leK (plCmp ks)) (places ks.length)) v w' ∧ Below w.heap.size w w' := by
  obtain ⟨W, hW⟩ : ∃ W, W = w.alloc (.cells #[.slice a ks.length cap] 54) := ⟨_, rfl⟩
  have hb0 := (Below.refl w.heap.size w).alloc (Nat.le_refl _) (.cells #[.slice a ks.length cap] 54)
  have hcell : (w.alloc (.cells #[.slice a ks.length cap] 54)).cell? ⟨w.heap.size, 0, none⟩ = some (.slice a ks.length cap) := by
    rw [Lib.cell_of_heap (MapKept.heap_alloc w _).1]; rfl
  have hp : w.heap.size < (w.alloc (.cells #[.slice a ks.length cap] 54)).heap.size := by simp
  have hin1 := hin.below hb0
  rw [← hW] at hb0 hcell hp hin1
  obtain ⟨p, hpe⟩ : ∃ p, p = w.heap.size := ⟨_, rfl⟩
  have HB0 := Lib.hid hb0
  have HCL := Lib.hid (show CloAt w.heap.size (plCmp ks) (fun x => 0 ≤ x ∧ x < ks.length) W from by
    rcases hin1.2 with rfl | ⟨b, off, rfl, hlt, hc⟩
    · intro _ _ x y hx; have := hx.1; have := hx.2; simp at *; omega
    · exact clo_at _ ks W ⟨hm, hp, b, off, cap, hcell, hin1⟩)
  have hWs : W.heap.size = w.heap.size + 1 := by rw [hW]; simp
  have HWs := Lib.hid hWs
  have HPL := Lib.hid (places_length ks.length)
  obtain ⟨i, z, hi, hz0, hz1, hz2, hz3⟩ := int40.info
  have hz4 : i.zero = some (.int .i64 0) := by have := info3; rw [hi] at this; simp at this; exact this.1
  obtain rfl : z = .int .i64 0 := by rw [hz0] at hz4; simpa using hz4
  have b2 : i.bytes * ks.length ≤ 281474976710656 := by rw [hz2]; omega
  have b3 : ks.length ≤ maxLen := by unfold maxLen at *; omega
  have HI := Lib.hid hi
  have HZ0 := Lib.hid hz0
  have HZ1 := Lib.hid hz1
  unfold maxLen at hcm
  clear hb0 hin hin1 hpe hi hz0 hz1 hz2 hz3 hz4 hWs
  go_enter Try.func24, Try.ntmps24
  go_upto_region 1 with fail
  rw [← hW]
  clear hW
  go_wp2_with (at_make; refine wpList_make_full _ rfl _ _ 27 rfl W.heap.size 3 i _ 1 Try.underlying27 HI.out HZ0.out HZ1.out _ _ _ _ ks.length rfl rfl rfl rfl b2 b3 (Nat.le_refl _) ?_)
  intro w1 hown hgr
  have hr : intR.row 3 W.heap.size (List.replicate ks.length 0) (.slice (some ⟨W.heap.size, 0, none⟩) ks.length ks.length) w1 := ⟨fun _ _ => trivial, by
    rw [List.length_replicate]
    have := made_ints ks.length
    rw [Nat.mul_one] at this
    rw [← this]
    exact hown⟩
  have HR := Lib.hid hr
  have HB1 := Lib.hid ((Below.refl W.heap.size W).grown hgr (Nat.le_refl _) (fun k hk => by cases hk))
  clear hown hgr hr hcell b2 b3
  go_wp2_with fail
  go_loopg [10] ks.length (fun g i wr => ∃ (k : Nat) (A : List Int), g + k = ks.length ∧ i = .int .i64 k ∧ intR.row 3 W.heap.size A (.slice (some ⟨W.heap.size, 0, none⟩) ks.length ks.length) wr ∧ A.length = ks.length ∧ A.take k = places k ∧ Below W.heap.size W wr)
  case atStart => exact ⟨0, _, by omega, rfl, HR.out, by simp, by simp [places], HB1.out⟩
  case round =>
    obtain ⟨k, A, hg, rfl, hra, hla, htk, hb⟩ := hrel
    have HG := Lib.hid hg
    have HRA := Lib.hid hra
    have HLA := Lib.hid hla
    have HTK := Lib.hid htk
    have HB := Lib.hid hb
    clear hg hra hla htk hb
    by_cases hk : k < ks.length
    · have hkA : k < A.length := by rw [HLA.out]; exact hk
      have e1 := int_cell (HRA.out.at (k := k) (x := A[k]) (by simp) |> fun h => by rw [Nat.zero_add]; exact h : intR.At wr ⟨W.heap.size, 0 + k * intR.sz, none⟩ A[k])
      rw [Nat.zero_add] at e1
      have e2 := int_frozen hkA HRA.out
      have HS := Lib.hid (int_set (k : Int) hkA HRA.out)
      have i1 : (k : Int) < ks.length := by omega
      go_wp2
      go_roundg (gk - 1)
      case measure => have := HG.out; omega
      case rel => exact ⟨k + 1, A.set k k, by have := HG.out; omega, by go_num, HS.out.1, by rw [List.length_set, HLA.out], by rw [List.take_succ_eq_append_getElem (by rw [List.length_set]; exact hkA), List.take_set_of_le (Nat.le_refl _), HTK.out, List.getElem_set_self, places_succ], HB.out.trans HS.out.2⟩
    · have HKE := Lib.hid (show k = ks.length by have := HG.out; omega)
      have hA : A = places ks.length := by have := HTK.out; rw [HKE.out, List.take_of_length_le (by rw [HLA.out]; exact Nat.le_refl _)] at this; exact this
      subst hA
      have hsl := HRA.out.sl
      have HM := Lib.hid (mergeN_any w.heap.size (plCmp ks) (fun x => 0 ≤ x ∧ x < ks.length) ks.length (some ⟨W.heap.size, 0, none⟩) ks.length (places ks.length) wr HPL.out hm hsl (fun x hx => places_mem hx) (HCL.out.below HB.out))
      unfold fclo at HM
      clear hsl
      go_wp2_with fail
      refine HM.out.mono ?_
      rintro e w2 ⟨v2, rfl, ho2, hb2⟩
      have HO2 := Lib.hid ho2
      have HB2 := Lib.hid hb2
      clear ho2 hb2
      go_wp2
      go_ret
      exact ⟨v2, rfl, HO2.out.base (Nat.le_trans HB0.out.size HB.out.size), HB0.out.trans ((HB.out.trans (HB2.out.mono HB.out.size)).mono HB0.out.size)⟩

end Go.Proofs.Ytchbpfkjhilgiaa
