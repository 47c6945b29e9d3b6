/- Rank of many; the best; the reference's ranks: walks. -/
import Derived.Test.YtkapidcgonjbaaaQe
import Derived.Test.YtkapidcgonjbaaaQf
import Derived.OwnWalk
import Derived.Laws.EntriesVeiled
namespace Go.Proofs.Ytkapidcgonjbaaa
open Go.RowKit
open Go.Sort hiding Below
set_option linter.unusedVariables false

set_option maxHeartbeats 2000000 in
set_option maxRecDepth 100000 in
theorem rankG_any (m b off : Nat) (cap : Nat) (l : List Nat) (w : World) (hl : l.length = m + 1) (hm : m < 1000) (hin : fltR.In w (some ⟨b, off, none⟩) l) (hcm : cap ≤ maxLen) (hcap : l.length ≤ cap) :
    Calls Try.prog 28 #[.slice (some ⟨b, off, none⟩) l.length cap] w fun e w' => ∃ v R, e = .returned v ∧ IsRank l R ∧ intR.row 3 w.heap.size (R.map fun x => ((x : Nat) : Int)) v w' ∧ Below w.heap.size w w' := by
  obtain ⟨W, hW⟩ : ∃ W, W = w.alloc (.cells #[.slice (some ⟨b, off, none⟩) l.length cap] 30) := ⟨_, rfl⟩
  have hb0 := (Below.refl w.heap.size w).alloc (Nat.le_refl _) (.cells #[.slice (some ⟨b, off, none⟩) l.length cap] 30)
  have hcell : (w.alloc (.cells #[.slice (some ⟨b, off, none⟩) l.length cap] 30)).cell? ⟨w.heap.size, 0, none⟩ = some (.slice (some ⟨b, off, none⟩) l.length cap) := by
    rw [Lib.cell_of_heap (MapKept.heap_alloc w _).1]; rfl
  have hp : w.heap.size < (w.alloc (.cells #[.slice (some ⟨b, off, none⟩) l.length cap] 30)).heap.size := by simp
  have hin1 := hin.below hb0
  have hbl : b < w.heap.size := by
    rcases hin.2 with h | ⟨b', off', he, hlt, _⟩
    · rw [h] at hl; simp at hl
    · cases he; exact hlt
  rw [← hW] at hb0 hcell hp hin1
  obtain ⟨p, hpe⟩ : ∃ p, p = w.heap.size := ⟨_, rfl⟩
  have HB0 := Lib.hid hb0
  have HIN := Lib.hid hin1
  have HBL := Lib.hid hbl
  have HCE := Lib.hid hcell
  have hWs : W.heap.size = w.heap.size + 1 := by rw [hW]; simp
  have HWs := Lib.hid hWs
  have HL := Lib.hid hl
  have HM := Lib.hid hm
  obtain ⟨i, z, hi, hz0, hz1, hz2, hz3⟩ := int43.info
  have hz4 : i.zero = some (.int .i64 0) := by have := info3; rw [hi] at this; simp at this; exact this.1
  obtain rfl : z = .int .i64 0 := by rw [hz0] at hz4; simpa using hz4
  have b2 : i.bytes * l.length ≤ 281474976710656 := by rw [hz2]; omega
  have b3 : l.length ≤ maxLen := by unfold maxLen at *; omega
  have hln : l.length ≤ 1000000 := by omega
  have HI := Lib.hid hi
  have HZ0 := Lib.hid hz0
  have HZ1 := Lib.hid hz1
  unfold maxLen at hcm
  clear hb0 hin hin1 hpe hi hz0 hz1 hz2 hz3 hz4 hWs hbl hl hm
  go_enter Try.func28, Try.ntmps28
  go_upto_region 1 with fail
  rw [← hW]
  clear hW
  go_wp2_with (at_make; refine wpList_make_full _ rfl _ _ 43 rfl W.heap.size 3 i _ 1 Try.underlying43 HI.out HZ0.out HZ1.out _ _ _ _ l.length rfl rfl rfl rfl b2 b3 (Nat.le_refl _) ?_)
  intro w1 hown hgr
  have hr : intR.row 3 W.heap.size (List.replicate l.length 0) (.slice (some ⟨W.heap.size, 0, none⟩) l.length l.length) w1 := ⟨fun _ _ => trivial, by
    rw [List.length_replicate]
    have := made_ints l.length
    rw [Nat.mul_one] at this
    rw [← this]
    exact hown⟩
  have HR := Lib.hid hr
  have HB1 := Lib.hid ((Below.refl W.heap.size W).grown hgr (Nat.le_refl _) (fun k hk => by cases hk))
  clear hown hgr hr hcell b2 b3
  go_wp2_with fail
  go_loopg [11] l.length (fun g i wr => ∃ (k : Nat) (A : List Int), g + k = l.length ∧ i = .int .i64 k ∧ intR.row 3 W.heap.size A (.slice (some ⟨W.heap.size, 0, none⟩) l.length l.length) wr ∧ A.length = l.length ∧ A.take k = places k ∧ Below W.heap.size W wr)
  case atStart => exact ⟨0, _, by omega, rfl, HR.out, by simp, by simp [places], HB1.out⟩
  case round =>
    obtain ⟨k, A, hg, rfl, hra, hla, htk, hb⟩ := hrel
    have HG := Lib.hid hg
    have HRA := Lib.hid hra
    have HLA := Lib.hid hla
    have HTK := Lib.hid htk
    have HB := Lib.hid hb
    clear hg hra hla htk hb
    by_cases hk : k < l.length
    · have hkA : k < A.length := by rw [HLA.out]; exact hk
      have e1 := int_cell (HRA.out.at (k := k) (x := A[k]) (by simp) |> fun h => by rw [Nat.zero_add]; exact h : intR.At wr ⟨W.heap.size, 0 + k * intR.sz, none⟩ A[k])
      rw [Nat.zero_add] at e1
      have e2 := int_frozen hkA HRA.out
      have HS := Lib.hid (int_set (k : Int) hkA HRA.out)
      have i1 : (k : Int) < l.length := by omega
      go_wp2
      go_roundg (gk - 1)
      case measure => have := HG.out; omega
      case rel => exact ⟨k + 1, A.set k k, by have := HG.out; omega, by go_num, HS.out.1, by rw [List.length_set, HLA.out], by rw [List.take_succ_eq_append_getElem (by rw [List.length_set]; exact hkA), List.take_set_of_le (Nat.le_refl _), HTK.out, List.getElem_set_self, places_succ], HB.out.trans HS.out.2⟩
    · have HKE := Lib.hid (show k = l.length by have := HG.out; omega)
      have hA : A = places l.length := by have := HTK.out; rw [HKE.out, List.take_of_length_le (by rw [HLA.out]; exact Nat.le_refl _)] at this; exact this
      subst hA
      clear HLA HTK HG HR HB1 HKE
      obtain ⟨W3, hW3⟩ : ∃ W3, W3 = wr.alloc (Obj.cells #[Value.func (Fn.func 45) #[] #[Value.pointer (some { block := w.heap.size, off := 0 })]] 64) := ⟨_, rfl⟩
      have hb3 : Below W.heap.size W W3 := by rw [hW3]; exact HB.out.alloc HB.out.size _
      have hr3 : intR.row 3 W.heap.size (places l.length) (.slice (some ⟨W.heap.size, 0, none⟩) l.length l.length) W3 := by
        rw [hW3]; exact HRA.out.below ((Below.refl _ _).alloc (Nat.le_refl _) _)
      obtain ⟨g', c', he, _, _, _, hlt⟩ := HRA.out.some (by have h1 := HL.out; intro h; have h2 := congrArg List.length h; rw [places_length, h1] at h2; simp at h2)
      obtain rfl : W.heap.size = g' := by simp at he; exact he.1
      clear he
      have hc3 : W3.cell? ⟨wr.heap.size, 0, none⟩ = some (.func (.func 45) #[] #[.pointer (some ⟨w.heap.size, 0, none⟩)]) := by
        rw [hW3, Lib.cell_of_heap (MapKept.heap_alloc wr _).1]; rfl
      have hs3 : W3.heap.size = wr.heap.size + 1 := by rw [hW3]; simp
      have hbw : W.heap.size ≤ W3.heap.size := hb3.size
      have hcw : W3.cell? ⟨w.heap.size, 0, none⟩ = some (.slice (some ⟨b, off, none⟩) l.length cap) := (hb3.cell (p := ⟨w.heap.size, 0, none⟩) hp).trans HCE.out
      have hiw := HIN.out.below hb3
      have hsa : SortAt w.heap.size wr.heap.size l W.heap.size W3 :=
        ⟨⟨⟨by omega, b, off, cap, hcw, hiw⟩, by omega, hc3⟩, by omega, b, off, cap, hcw, hiw, by omega, by have := HBL.out; have := HWs.out; omega⟩
      have hH : Holds (plE m) W3 W.heap.size 0 (allP m) := row.holds (plE m) (allP m) hr3 (by rw [HL.out]; exact cells_places m)
      have hst := stable_any (plE m) (rkF l m) (rkLt l m) (fun i => i.val) (rkLt_swo l m) (rkF_lt l m) 47 #[.pointer (some ⟨wr.heap.size, 0, none⟩), .pointer (some ⟨w.heap.size, 0, none⟩)] W.heap.size 0 l.length l.length (allP m) (allP m) W3 W3 enters47
        (rk_lays l m HL.out w.heap.size wr.heap.size W.heap.size W3 hsa (allP m).size) ⟨fun _ => rfl, hH, by omega⟩ ((allP_size m).trans HL.out.symm) ((allP_size m).trans HL.out.symm) (SW.start hH) (by have := HL.out; have := HM.out; omega)
        (fun q hq => by have h1 : q < (allP m).size := by rw [allP_size, ← HL.out]; exact hq
                        rw [getElem!_pos (allP m) q h1]; simp [allP])
      have HST := Lib.hid hst
      have HR3 := Lib.hid hr3
      have HB3 := Lib.hid hb3
      have HLT := Lib.hid hlt
      have HS3 := Lib.hid hs3
      rw [hW3] at HST
      clear hst hb3 hr3 hlt hc3 hs3 hbw hcw hiw hsa hH
      have f0 := (MapKept.heap_alloc wr (Obj.cells #[Value.nilFunc] 64)).1
      have f1 : (wr.alloc (Obj.cells #[Value.nilFunc] 64)).cell? ⟨wr.heap.size, 0, none⟩ = some Value.nilFunc := by rw [Lib.cell_of_heap f0]; rfl
      have f2 : (wr.alloc (Obj.cells #[Value.nilFunc] 64)).frozen? ⟨wr.heap.size, 0, none⟩ = false := Lib.frozen_of_heap f0 _
      clear f0
      have HW3 := Lib.hid hW3
      clear hW3
      go_wp2_with fail
      refine HST.out.mono ?_
      clear f1 f2
      rintro e w2 ⟨rfl, D, ⟨n, os, hw2⟩, hpm, hso⟩
      rw [← HW3.out] at hw2
      have HW2 := Lib.hid hw2
      have HPM := Lib.hid hpm
      have HSO := Lib.hid hso
      clear hw2 HST HW3 hpm hso
      go_wp2
      go_ret
      have hpm := HPM.out
      have hso := HSO.out
      rw [HL.out] at hpm hso
      refine ⟨_, D.toList.map (fun i => i.val), rfl, rank_of_sorted l m HL.out D hpm hso, ?_, ?_⟩
      · rw [HW2.out]
        refine (row.sorted (plE m) _ n os HR3.out (O' := (D.toList.map (fun i => i.val)).map fun x => ((x : Nat) : Int)) ?_ (fun _ _ => trivial) ?_).base HB0.out.size
        · rw [List.map_map]; exact cells_plE m _
        · rw [places_length, HL.out]
          simp only [List.length_map, Array.length_toList]
          rw [hpm.1, allP_size]
      · rw [HW2.out]
        have h1 := HB0.out
        exact h1.trans ((HB3.out.mono h1.size).trans (below_sortWorld (plE m) W3 W.heap.size 0 n _ os w.heap.size h1.size (Nat.le_trans h1.size HB3.out.size)))
/-! ### Nothing to rank -/
set_option maxHeartbeats 1000000 in
set_option maxRecDepth 100000 in
theorem ins0 (s : Value) (f : Value) (w : World) : Calls Try.prog 65 #[s, .int .i64 0, .int .i64 0, f] w fun e w' => e = .returned (.tuple #[]) ∧ w' = w := by
  go_enter Try.func65, Try.ntmps65
  go_wp2_with fail
  refine wp_loop_rounds 2 ?_
  rw [rounds_succ]
  go_wp2
  go_end0
  exact ⟨rfl, rfl⟩
set_option maxHeartbeats 1000000 in
set_option maxRecDepth 100000 in
theorem cmpStable0 (s : Value) (f : Value) (w : World) : Calls Try.prog 54 #[s, .int .i64 0, f] w fun e w' => e = .returned (.tuple #[]) ∧ w' = w := by
  go_enter Try.func54, Try.ntmps54
  go_wp2_with fail
  refine wp_loop_rounds 2 ?_
  rw [rounds_succ]
  go_wp2_with fail
  refine (ins0 _ _ _).mono ?_
  rintro e w1 ⟨rfl, rfl⟩
  go_wp2_with fail
  refine wp_loop_rounds 2 ?_
  rw [rounds_succ]
  go_wp2
  go_end0
  exact ⟨rfl, rfl⟩
set_option maxHeartbeats 1000000 in
set_option maxRecDepth 100000 in
theorem stable0 (a : Option Addr) (c : Nat) (f : Value) (w : World) : Calls Try.prog 46 #[.slice a 0 c, f] w fun e w' => e = .returned (.tuple #[]) ∧ w' = w := by
  go_enter Try.func46, Try.ntmps46
  go_wp2_with fail
  refine (cmpStable0 _ _ _).mono ?_
  rintro e w1 ⟨rfl, rfl⟩
  go_wp2
  go_end0
  exact ⟨rfl, rfl⟩
set_option maxHeartbeats 2000000 in
set_option maxRecDepth 100000 in
theorem rank0_any (p : Option Addr) (cap : Nat) (w : World) : Calls Try.prog 28 #[.slice p 0 cap] w fun e w' => ∃ v, e = .returned v ∧ intR.row 3 w.heap.size [] v w' ∧ Below w.heap.size w w' := by
  obtain ⟨W, hW⟩ : ∃ W, W = w.alloc (.cells #[.slice p 0 cap] 30) := ⟨_, rfl⟩
  have hb0 := (Below.refl w.heap.size w).alloc (Nat.le_refl _) (.cells #[.slice p 0 cap] 30)
  have hcell : (w.alloc (.cells #[.slice p 0 cap] 30)).cell? ⟨w.heap.size, 0, none⟩ = some (.slice p 0 cap) := by
    rw [Lib.cell_of_heap (MapKept.heap_alloc w _).1]; rfl
  rw [← hW] at hb0 hcell
  have hp : w.heap.size < W.heap.size := by rw [hW]; simp
  have HP := Lib.hid hp
  have HB0 := Lib.hid hb0
  have HCE := Lib.hid hcell
  obtain ⟨i, z, hi, hz0, hz1, hz2, hz3⟩ := int43.info
  have hz4 : i.zero = some (.int .i64 0) := by have := info3; rw [hi] at this; simp at this; exact this.1
  obtain rfl : z = .int .i64 0 := by rw [hz0] at hz4; simpa using hz4
  have b2 : i.bytes * 0 ≤ 281474976710656 := by omega
  have b3 : 0 ≤ maxLen := by unfold maxLen; omega
  have HI := Lib.hid hi
  have HZ0 := Lib.hid hz0
  have HZ1 := Lib.hid hz1
  clear hb0 hi hz0 hz1 hz2 hz3 hz4
  go_enter Try.func28, Try.ntmps28
  go_upto_region 1 with fail
  rw [← hW]
  clear hW
  go_wp2_with (at_make; refine wpList_make_full _ rfl _ _ 43 rfl W.heap.size 3 i _ 1 Try.underlying43 HI.out HZ0.out HZ1.out _ _ _ _ 0 rfl rfl rfl rfl b2 b3 (Nat.le_refl _) ?_)
  intro w1 hown hgr
  have hr : intR.row 3 W.heap.size [] (.slice (some ⟨W.heap.size, 0, none⟩) 0 0) w1 := ⟨(fun _ h => by cases h), by
    have e0 : (madeCells #[Value.int .i64 0] 0).toList = intR.cells [] := made_ints 0
    rw [← e0]; exact hown⟩
  have HR := Lib.hid hr
  have HB1 := Lib.hid ((Below.refl W.heap.size W).grown hgr (Nat.le_refl _) (fun k hk => by cases hk))
  clear hown hgr hr hcell b2 b3 hp
  go_wp2_with fail
  refine wp_loop_rounds 2 ?_
  rw [rounds_succ]
  have f0 := (MapKept.heap_alloc w1 (Obj.cells #[Value.nilFunc] 64)).1
  have f1 : (w1.alloc (Obj.cells #[Value.nilFunc] 64)).cell? ⟨w1.heap.size, 0, none⟩ = some Value.nilFunc := by rw [Lib.cell_of_heap f0]; rfl
  have f2 : (w1.alloc (Obj.cells #[Value.nilFunc] 64)).frozen? ⟨w1.heap.size, 0, none⟩ = false := Lib.frozen_of_heap f0 _
  clear f0
  go_wp2_with fail
  refine (stable0 _ _ _ _).mono ?_
  clear f1 f2
  rintro e w2 ⟨rfl, rfl⟩
  obtain ⟨w3, hw3⟩ : ∃ w3, w3 = w1.alloc (Obj.cells #[Value.func (Fn.func 45) #[] #[Value.pointer (some { block := w.heap.size, off := 0 })]] 64) := ⟨_, rfl⟩
  have hb3 : Below w1.heap.size w1 w3 := by rw [hw3]; exact (Below.refl _ _).alloc (Nat.le_refl _) _
  have HR3 := Lib.hid (HR.out.below hb3)
  have HB3 := Lib.hid (HB0.out.trans ((HB1.out.trans (hb3.mono HB1.out.size)).mono HB0.out.size))
  clear hb3
  try rw [← hw3]
  clear hw3
  go_wp2
  go_ret
  exact ⟨_, rfl, HR3.out.base HB0.out.size, HB3.out⟩
end Go.Proofs.Ytkapidcgonjbaaa
