/- Apply, for text. -/
import Derived.Test.YtipoifokcnbfnaaPg
import Derived.StillTailTactics
namespace Go.Proofs.Ytipoifokcnbfnaa
open Go.RowKit
set_option linter.unusedVariables false


theorem IntsIn.of_row {k : IntKind} {w : World} {b : Nat} {e : TypeId} {p : Option Addr} {c : Nat} {xs : List Int} (h : w.ownsRow b e 1 (.slice p xs.length c) xs.length (xs.map (Value.int k))) :
    IntsIn k w p xs ∧ xs.length ≤ c ∧ c ≤ maxLen := by
  obtain ⟨_, ⟨h1, h2⟩ | ⟨g, cap, cur, hv, hg, hh, hc, hm, hs, ht⟩⟩ := h
  · injection h1 with e1 e2 e3
    exact ⟨.inl (List.length_eq_zero_iff.1 h2), by omega, by omega⟩
  · injection hv with e1 e2 e3
    subst e1 e3
    refine ⟨.inr ⟨g, 0, rfl, (Array.getElem?_eq_some_iff.1 hh).1, fun i hi => ?_⟩, hc, hm⟩
    have h5 : (cur.toList.take (xs.length * 1))[i]? = (xs.map (Value.int k))[i]? := by rw [ht]
    rw [List.getElem?_take, if_pos (by omega), List.getElem?_map] at h5
    simp only [World.cell?, hh, Nat.zero_add]
    rw [List.getElem?_eq_getElem hi] at h5
    simp only [Option.map_some, Array.getElem?_toList] at h5
    simp only [List.getD_eq_getElem?_getD, List.getElem?_eq_getElem hi, Option.getD_some]
    simpa using h5
theorem IntsIn.takeP {k : IntKind} {w : World} {p : Option Addr} {xs : List Int} (n : Nat) (h : IntsIn k w p xs) : IntsIn k w p (xs.take n) := by
  rcases h with rfl | ⟨b, off, rfl, hlt, hc⟩
  · exact .inl (by simp)
  · refine .inr ⟨b, off, rfl, hlt, fun i hi => ?_⟩
    rw [List.length_take] at hi
    rw [hc i (by omega), List.getD_eq_getElem?_getD, List.getD_eq_getElem?_getD, List.getElem?_take, if_pos (by omega)]
theorem IntsIn.dropP {k : IntKind} {w : World} {p : Option Addr} {xs : List Int} (n : Nat) (h : IntsIn k w p xs) : IntsIn k w (p.map (·.add n)) (xs.drop n) := by
  rcases h with rfl | ⟨b, off, rfl, hlt, hc⟩
  · exact .inl (by simp)
  · refine .inr ⟨b, off + n, by simp [Addr.add], hlt, fun i hi => ?_⟩
    rw [List.length_drop] at hi
    rw [Nat.add_assoc, hc (n + i) (by omega), List.getD_eq_getElem?_getD, List.getD_eq_getElem?_getD, List.getElem?_drop]
/-- A slice's beginning, as the model slices. -/
theorem slice22_to {w : World} {p : Option Addr} {c : Nat} {ys : List Int} (n : Nat) (hn : n ≤ ys.length) (hc : ys.length ≤ c) (h : IntsIn .i32 w p ys) :
    ∃ pb, (∀ wx, (Instr.slice 22 (.slice p ys.length c) none (some (.int .i64 (n : Int))) none).run Try.prog wx = .ok (.slice pb n c) wx) ∧ IntsIn .i32 w pb (ys.take n) := by
  by_cases h0 : c = 0
  · refine ⟨p, fun wx => ?_, h.takeP n⟩
    rw [run_slice_h wx 22 p ys.length c (by kernel_rfl) .i64 n (by omega) (by omega)]
    have : (sizeOf (Try.prog.elem 22)).run Try.prog wx = .ok 1 wx := by simp [sizeOf, typeInfo, show Try.prog.info? (Try.prog.elem 22) = Try.prog.info? 21 from rfl, Sem.run_bind]; rfl
    rw [this]; simp [sliced, h0]
  · refine ⟨p.map (·.add 0), fun wx => ?_, ?_⟩
    · rw [run_slice_h wx 22 p ys.length c (by kernel_rfl) .i64 n (by omega) (by omega)]
      have : (sizeOf (Try.prog.elem 22)).run Try.prog wx = .ok 1 wx := by simp [sizeOf, typeInfo, show Try.prog.info? (Try.prog.elem 22) = Try.prog.info? 21 from rfl, Sem.run_bind]; rfl
      rw [this]; simp [sliced, h0]
    · exact (h.dropP 0).takeP n
theorem slice22_from {w : World} {p : Option Addr} {c : Nat} {ys : List Int} (n : Nat) (hn : n ≤ ys.length) (hc : ys.length ≤ c) (h : IntsIn .i32 w p ys) :
    ∃ pb, (∀ wx, (Instr.slice 22 (.slice p ys.length c) (some (.int .i64 (n : Int))) none none).run Try.prog wx = .ok (.slice pb (ys.drop n).length (c - n)) wx) ∧ IntsIn .i32 w pb (ys.drop n) := by
  have hsz : ∀ wx, (sizeOf (Try.prog.elem 22)).run Try.prog wx = .ok 1 wx := fun wx => by simp [sizeOf, typeInfo, show Try.prog.info? (Try.prog.elem 22) = Try.prog.info? 21 from rfl, Sem.run_bind]; rfl
  by_cases h0 : c = n
  · refine ⟨p, fun wx => ?_, .inl (List.drop_eq_nil_iff.2 (by omega))⟩
    rw [run_slice_l wx 22 p ys.length c (by kernel_rfl) .i64 n (by omega) (by omega), hsz]
    simp [sliced, h0]
  · refine ⟨p.map (·.add n), fun wx => ?_, h.dropP n⟩
    rw [run_slice_l wx 22 p ys.length c (by kernel_rfl) .i64 n (by omega) (by omega), hsz]
    simp [sliced, h0]
/-- One edit, on the runes that are left. -/
theorem apStep_bad {xs ys : List Int} {i : Nat} {out : List UInt8} {e : Ed} (hy : ys.length + i = xs.length) (h : e.1 < 0 ∨ e.2.1 < 0 ∨ e.1 > (ys.length : Int) ∨ e.2.1 > (ys.length : Int) - e.1) : apStep xs (some (i, out)) e = none := by
  simp only [apStep]
  rw [if_pos (by omega)]
theorem apStep_good {xs ys : List Int} {i : Nat} {out : List UInt8} {n0 n1 : Nat} {x2 : List UInt8} (hy : ys.length + i = xs.length) (hy' : ys = xs.drop i) (h : n0 + n1 ≤ ys.length) :
    apStep xs (some (i, out)) ((n0 : Int), (n1 : Int), x2) = some (i + (n0 + n1), out ++ (encs (ys.take n0) ++ x2)) := by
  simp only [apStep]
  rw [if_neg (by omega), hy']
  simp [Nat.add_assoc]
theorem fold_snoc {xs : List Int} {E : List Ed} {k : Nat} (hk : k < E.length) : (E.take (k + 1)).foldl (apStep xs) (some (0, [])) = apStep xs ((E.take k).foldl (apStep xs) (some (0, []))) (E.getD k ed0) := by
  rw [take_snocB ed0 E k hk, List.foldl_append]; rfl
theorem fold_none {xs : List Int} {E : List Ed} {k : Nat} (h : (E.take k).foldl (apStep xs) (some (0, [])) = none) : E.foldl (apStep xs) (some (0, [])) = none := by
  rw [← List.take_append_drop k E, List.foldl_append, h, apStep_none]
theorem any_chk {E : List Ed} (h : ∀ e ∈ E, chkE e.2.2 = 0) : E.any (fun e => chkE e.2.2 != 0) = false := by
  rw [List.any_eq_false]; intro e he; rw [h e he]; decide
theorem applyL_none {s : List UInt8} {E : List Ed} (h : E.foldl (apStep (runesL s)) (some (0, [])) = none) (h0 : chkE s = 0) (hc : ∀ e ∈ E, chkE e.2.2 = 0) : applyL s E = ([], 1) := by
  unfold applyL; rw [if_neg (by rw [any_chk hc]; simp [h0]), h]
theorem applyL_some {s : List UInt8} {E : List Ed} {i : Nat} {out : List UInt8} (h : E.foldl (apStep (runesL s)) (some (0, [])) = some (i, out)) (h0 : chkE s = 0) (hc : ∀ e ∈ E, chkE e.2.2 = 0) : applyL s E = if i = (runesL s).length then (out, 0) else ([], 1) := by
  unfold applyL; rw [if_neg (by rw [any_chk hc]; simp [h0]), h]
theorem good_text {rs : List Int} (h : Good rs) : textL rs = encs rs ∧ textE rs = 0 := by
  unfold textL textE
  have : allMay rs = true := by unfold allMay; rw [List.all_eq_true]; exact h
  rw [this]; exact ⟨rfl, rfl⟩
theorem encs_take_le (rs : List Int) (n : Nat) : (encs (rs.take n)).length ≤ 4 * n := by
  have := encs_len4 (rs.take n)
  have h2 : (rs.take n).length ≤ n := by simp; omega
  omega
theorem add_bytes2 (a b : List UInt8) : (⟨a.toArray⟩ : ByteArray) ++ ⟨b.toArray⟩ = ⟨(a ++ b).toArray⟩ := by
  apply ByteArray.ext
  rw [ByteArray.data_append]
  simp

theorem alloc3 (w : World) (a b c : Value) (t : TypeId) : (w.alloc (.cells #[a, b, c] t)).cell? ⟨w.heap.size, 0, none⟩ = some a ∧ (w.alloc (.cells #[a, b, c] t)).cell? ⟨w.heap.size, 1, none⟩ = some b ∧ (w.alloc (.cells #[a, b, c] t)).cell? ⟨w.heap.size, 2, none⟩ = some c := by
  have e : (w.alloc (.cells #[a, b, c] t)).heap = w.heap.push (.cells #[a, b, c] t) := rfl
  refine ⟨?_, ?_, ?_⟩ <;> (unfold World.cell?; rw [e]; simp)
theorem alloc_lt (w : World) (o : Obj) : w.heap.size < (w.alloc o).heap.size := by
  have e : (w.alloc o).heap = w.heap.push o := rfl
  rw [e]; simp

set_option maxHeartbeats 4000000 in
set_option maxRecDepth 100000 in
theorem apply_text (s : ByteArray) (hs : s.size ≤ 4096) (a : Option Addr) (cap : Nat) (E : List Ed) (w : World) (hEl : E.length ≤ 10000) (hEt : ∀ e ∈ E, e.2.2.length ≤ 40000) (hin : edR.In w a E) (h0 : chkE s.data.toList = 0) :
    Calls Try.prog 18 #[.string s, .slice a E.length cap] w fun e w' => e = .returned (.tuple #[.string ⟨(applyL s.data.toList E).1.toArray⟩, .int .i64 (applyL s.data.toList E).2]) ∧ Below w.heap.size w w' := by
  have HX := Lib.hid hin
  have HT := Lib.hid hEt
  have H0 := Lib.hid h0
  have H1 := Lib.hid (runes_any s (by unfold maxLen; omega) (by omega) w)
  obtain ⟨RT, hRT⟩ : ∃ RT, RT = applyL s.data.toList E := ⟨_, rfl⟩
  rw [← hRT]
  have HRT := Lib.hid hRT
  clear hin hEt h0 hRT
  go_enter Try.func18, Try.ntmps18
  go_wp2_with fail
  refine H1.out.mono ?_
  rintro e w1 ⟨v1, rfl, hr1, hb1⟩
  rw [H0.out]
  have HR1 := Lib.hid hr1
  obtain ⟨p1, c1, rfl⟩ := owns_slice hr1
  have HB1 := Lib.hid hb1
  clear hr1 hb1
  go_wp2_with fail
  go_loopg [29] E.length (fun g v29 wr => ∃ (k : Nat), g + k = E.length ∧ v29 = .int .i64 k ∧ (∀ e ∈ E.take k, chkE e.2.2 = 0) ∧ Below w1.heap.size w1 wr)
  case atStart => exact ⟨0, by omega, rfl, by simp, Below.refl _ _⟩
  case round =>
    obtain ⟨k, hg, rfl, hc, hbw⟩ := hrel
    have HG := Lib.hid hg
    have HC := Lib.hid hc
    have HB := Lib.hid hbw
    clear hg hc hbw
    by_cases hk : k < E.length
    · rcases HX.out.2 with h | ⟨b, off, rfl, hlt, hcl⟩
      · subst h; simp at hk
      have hxk : E[k]? = some (E.getD k ed0) := by simp [List.getD_eq_getElem?_getD, hk]
      obtain ⟨e1, e5⟩ := ((hcl k _ hxk).below HB1.out).below HB.out
      change fits wr ⟨b, off + k * 3, none⟩ 3 at e1
      change aggAt wr ⟨b, off + k * 3, none⟩ 3 = edB (E.getD k ed0) at e5
      have e3 : b < wr.heap.size := Nat.lt_of_lt_of_le hlt (Nat.le_trans HB1.out.size HB.out.size)
      have i1 : (k : Int) < E.length := by omega
      have hb2 := HT.out _ (List.mem_of_getElem? hxk)
      have HTK := Lib.hid (take_snocB ed0 E k hk)
      have HMEM := Lib.hid (List.mem_of_getElem? hxk)
      clear hcl hxk
      obtain ⟨⟨x0, x1, x2⟩, hx⟩ : ∃ x, x = E.getD k ed0 := ⟨_, rfl⟩
      rw [← hx] at e5 HTK hb2 HMEM
      simp only at hb2
      have e6 : aggAt wr ⟨b, off + k * 3, none⟩ 3 = #[.int .i64 x0, .int .i64 x1, .string ⟨x2.toArray⟩] := e5
      have HCK := Lib.hid (fun w' => check_any ⟨x2.toArray⟩ (by unfold maxLen; show x2.toArray.size ≤ _; simp; omega) w')
      have HCC := Lib.hid (chkE_cases x2)
      clear e5 hx
      go_wp2_with fail
      refine (HCK.out _).mono ?_
      rintro e w2 ⟨rfl, rfl⟩
      have HB2 := Lib.hid (HB.out.trans (((Below.refl wr.heap.size wr).alloc (Nat.le_refl _) (.cells #[.int .i64 x0, .int .i64 x1, .string ⟨x2.toArray⟩] 42)).mono HB.out.size))
      rcases HCC.out with hcc | hcc
      · have HCE := Lib.hid hcc
        rw [show chkE (⟨x2.toArray⟩ : ByteArray).data.toList = 0 from hcc]
        clear hcc
        go_wp2
        go_roundg (gk - 1)
        case measure => have := HG.out; omega
        case rel => exact ⟨k + 1, by have := HG.out; omega, by go_num, (by rw [HTK.out]; intro e he; rcases List.mem_append.1 he with he | he; exact HC.out e he; rw [List.mem_singleton] at he; subst he; exact HCE.out), HB2.out⟩
      · have HCE := Lib.hid (show RT = ([], 5) by
          rw [HRT.out]; unfold applyL
          rw [if_pos (.inr (List.any_eq_true.2 ⟨_, HMEM.out, by simp [hcc]⟩))])
        rw [show chkE (⟨x2.toArray⟩ : ByteArray).data.toList = 5 from hcc]
        clear hcc
        go_wp2
        go_ret2
        exact ⟨by rw [HCE.out]; rfl, HB1.out.trans (HB2.out.mono HB1.out.size)⟩
    · have HCA := Lib.hid (show ∀ e ∈ E, chkE e.2.2 = 0 by
        have := HC.out; rw [List.take_of_length_le (by omega)] at this; exact this)
      obtain ⟨x, hx⟩ : ∃ x, x = runesL s.data.toList := ⟨_, rfl⟩
      have HFN := Lib.hid (fun (h : E.foldl (apStep x) (some (0, [])) = none) => (show RT = ([], 1) by rw [HRT.out]; exact applyL_none (hx ▸ h) H0.out HCA.out))
      have HFS := Lib.hid (fun (i : Nat) (out : List UInt8) (h : E.foldl (apStep x) (some (0, [])) = some (i, out)) => (show RT = if i = x.length then (out, 0) else ([], 1) by rw [HRT.out, hx]; exact applyL_some (hx ▸ h) H0.out HCA.out))
      have HGX := Lib.hid (show Good x by rw [hx]; exact runesL_good _)
      have HXL := Lib.hid (show x.length ≤ 4096 by
        have h1 := runesL_le s.data.toList
        have h2 : s.data.toList.length = s.size := by simp
        rw [hx]; omega)
      rw [← hx] at HR1
      have hri := IntsIn.of_row HR1.out
      have HP1 := Lib.hid (hri.1.below HB.out)
      have hc1 := hri.2.1
      have hc2 := hri.2.2
      have hc2 : c1 ≤ 9223372036854775807 := by unfold maxLen at hc2; omega
      rw [← hx]
      have HBA := Lib.hid (HB1.out.trans (HB.out.mono HB1.out.size))
      clear hx HR1 HRT HC hri
      rename World => w5
      go_wp2_with fail
      go_loopg [13, 6, 45] E.length (fun g v13 v6 v45 wr => ∃ (k i : Nat) (out : List UInt8) (ys : List Int) (pa : Option Addr) (c : Nat), g + k = E.length ∧ v45 = .int .i64 k ∧ v13 = .string ⟨out.toArray⟩ ∧ v6 = .slice pa ys.length c ∧
        ys = x.drop i ∧ ys.length + i = x.length ∧ ys.length ≤ c ∧ c ≤ 9223372036854775807 ∧ IntsIn .i32 wr pa ys ∧ out.length ≤ k * 60000 ∧ (E.take k).foldl (apStep x) (some (0, [])) = some (i, out) ∧ Below w5.heap.size w5 wr)
      case atStart => exact ⟨0, 0, [], x, p1, c1, by omega, rfl, rfl, rfl, rfl, by omega, hc1, hc2, HP1.out, by simp, rfl, Below.refl _ _⟩
      case round =>
        obtain ⟨k, i, out, ys, pa, c, hg, rfl, rfl, rfl, hys, hyl, hyc, hcm, hpi, hol, hfo, hbq⟩ := hrel
        have HG := Lib.hid hg
        have HYS := Lib.hid hys
        have HYL := Lib.hid hyl
        have HPI := Lib.hid hpi
        have HFO := Lib.hid hfo
        have HBQ := Lib.hid hbq
        clear hg hys hyl hpi hfo hbq
        by_cases hk2 : k < E.length
        · rcases HX.out.2 with h | ⟨b, off, rfl, hlt, hcl⟩
          · subst h; simp at hk2
          have hxk : E[k]? = some (E.getD k ed0) := by simp [List.getD_eq_getElem?_getD, hk2]
          obtain ⟨e1, e5⟩ := (((hcl k _ hxk).below HB1.out).below HB.out).below HBQ.out
          change fits wr ⟨b, off + k * 3, none⟩ 3 at e1
          change aggAt wr ⟨b, off + k * 3, none⟩ 3 = edB (E.getD k ed0) at e5
          have e3 : b < wr.heap.size := Nat.lt_of_lt_of_le hlt (Nat.le_trans HB1.out.size (Nat.le_trans HB.out.size HBQ.out.size))
          have i1 : (k : Int) < E.length := by omega
          have hb2 := HT.out _ (List.mem_of_getElem? hxk)
          have hfk := fold_snoc (xs := x) hk2
          rw [HFO.out] at hfk
          clear hcl hxk
          obtain ⟨⟨x0, x1, x2⟩, hx⟩ : ∃ x, x = E.getD k ed0 := ⟨_, rfl⟩
          rw [← hx] at e5 hb2 hfk
          have HFK := Lib.hid hfk
          simp only at hb2
          have e6 : aggAt wr ⟨b, off + k * 3, none⟩ 3 = #[.int .i64 x0, .int .i64 x1, .string ⟨x2.toArray⟩] := e5
          have HBN := Lib.hid (HBQ.out.trans (((Below.refl wr.heap.size wr).alloc (Nat.le_refl _) (.cells #[.int .i64 x0, .int .i64 x1, .string ⟨x2.toArray⟩] 42)).mono HBQ.out.size))
          clear e5 hx hfk
          by_cases b1 : x0 < 0
          · have HRE := Lib.hid (HFN.out (fold_none (k := k + 1) (by rw [HFK.out]; exact apStep_bad HYL.out (.inl b1))))
            go_wp2
            go_ret2
            exact ⟨by rw [HRE.out]; rfl, HBA.out.trans (HBN.out.mono HBA.out.size)⟩
          by_cases b2 : x1 < 0
          · have HRE := Lib.hid (HFN.out (fold_none (k := k + 1) (by rw [HFK.out]; exact apStep_bad HYL.out (.inr (.inl b2)))))
            go_wp2
            go_ret2
            exact ⟨by rw [HRE.out]; rfl, HBA.out.trans (HBN.out.mono HBA.out.size)⟩
          by_cases b3 : (ys.length : Int) < x0
          · have HRE := Lib.hid (HFN.out (fold_none (k := k + 1) (by rw [HFK.out]; exact apStep_bad HYL.out (.inr (.inr (.inl b3))))))
            go_wp2
            go_ret2
            exact ⟨by rw [HRE.out]; rfl, HBA.out.trans (HBN.out.mono HBA.out.size)⟩
          have f0 : IntKind.i64.wrap ((ys.length : Int) - x0) = ys.length - x0 := IntWalk.i64_in _ (by omega)
          by_cases b4 : (ys.length : Int) - x0 < x1
          · have HRE := Lib.hid (HFN.out (fold_none (k := k + 1) (by rw [HFK.out]; exact apStep_bad HYL.out (.inr (.inr (.inr b4))))))
            go_wp2
            go_ret2
            exact ⟨by rw [HRE.out]; rfl, HBA.out.trans (HBN.out.mono HBA.out.size)⟩
          obtain ⟨n0, rfl⟩ := Int.eq_ofNat_of_zero_le (show 0 ≤ x0 by omega)
          obtain ⟨n1, rfl⟩ := Int.eq_ofNat_of_zero_le (show 0 ≤ x1 by omega)
          have g0 : n0 + n1 ≤ ys.length := by omega
          have f1 : IntKind.i64.wrap ((n0 : Int) + n1) = n0 + n1 := IntWalk.i64_in _ (by omega)
          obtain ⟨pb, hs1, hpb⟩ := slice22_to n0 (by omega) hyc HPI.out
          obtain ⟨pc, hs2, hpc⟩ := slice22_from (n0 + n1) g0 hyc HPI.out
          rw [Int.natCast_add] at hs2
          have HPC := Lib.hid hpc
          have HTX := Lib.hid (fun w' (hb : Below wr.heap.size wr w') => text_any pb c (ys.take n0) w' (by rw [List.length_take]; have := HXL.out; have := HYL.out; omega) (hpb.below hb))
          obtain ⟨ht1, ht2⟩ := good_text (show Good (ys.take n0) from fun r hr => HGX.out r (by have h9 := List.mem_of_mem_take hr; rw [HYS.out] at h9; exact List.mem_of_mem_drop h9))
          rw [ht1, ht2, List.length_take, Nat.min_eq_left (by omega)] at HTX
          have hal := encs_take_le ys n0
          obtain ⟨A, hA⟩ : ∃ A, A = encs (ys.take n0) := ⟨_, rfl⟩
          rw [← hA] at HTX hal
          have HA := Lib.hid hA
          have hyx : ys.length ≤ 4096 := by have := HXL.out; have := HYL.out; omega
          have hadd1 : ∀ w, (Op.stringOp .add (⟨A.toArray⟩ : ByteArray) ⟨x2.toArray⟩).run Try.prog w = .ok (.string ⟨(A ++ x2).toArray⟩) w := fun w => by
            rw [← add_bytes2]; exact run_string_add_sum w _ _ (by show A.toArray.size + x2.toArray.size ≤ _; simp; omega)
          have hadd2 : ∀ w, (Op.stringOp .add (⟨out.toArray⟩ : ByteArray) ⟨(A ++ x2).toArray⟩).run Try.prog w = .ok (.string ⟨(out ++ (A ++ x2)).toArray⟩) w := fun w => by
            rw [← add_bytes2]; exact run_string_add_sum w _ _ (by show out.toArray.size + (A ++ x2).toArray.size ≤ _; simp; omega)
          have HOB := Lib.hid (show (out ++ (A ++ x2)).length ≤ (k + 1) * 60000 by simp; omega)
          obtain ⟨out2, hout2⟩ : ∃ o, o = out ++ (A ++ x2) := ⟨_, rfl⟩
          rw [← hout2] at hadd2 HOB
          have HFT := Lib.hid (show (E.take (k + 1)).foldl (apStep x) (some (0, [])) = some (i + (n0 + n1), out2) by rw [HFK.out, apStep_good HYL.out HYS.out g0, hout2, HA.out])
          have HYZ := Lib.hid (show ys.drop (n0 + n1) = x.drop (i + (n0 + n1)) by rw [HYS.out, List.drop_drop])
          obtain ⟨zs, hzs⟩ : ∃ zs, zs = ys.drop (n0 + n1) := ⟨_, rfl⟩
          have HZL := Lib.hid (show zs.length + (i + (n0 + n1)) = x.length by rw [hzs, List.length_drop]; have := HYL.out; omega)
          have hzc : zs.length ≤ c - (n0 + n1) := by rw [hzs, List.length_drop]; omega
          rw [← hzs] at HPC HYZ hs2
          clear hA hout2 hzs hpb hpc hal ht1 ht2 hol
          go_wp2_with fail
          refine (HTX.out _ ((Below.refl wr.heap.size wr).alloc (Nat.le_refl _) _)).mono ?_
          rintro e w2 ⟨rfl, hb2⟩
          have q0 : w2.cell? ⟨wr.heap.size, 0, none⟩ = some (.int .i64 n0) := (hb2.cell (p := ⟨wr.heap.size, 0, none⟩) (alloc_lt _ _)).trans (alloc3 wr _ _ _ _).1
          have q1 : w2.cell? ⟨wr.heap.size, 1, none⟩ = some (.int .i64 n1) := (hb2.cell (p := ⟨wr.heap.size, 1, none⟩) (alloc_lt _ _)).trans (alloc3 wr _ _ _ _).2.1
          have q2 : w2.cell? ⟨wr.heap.size, 2, none⟩ = some (.string ⟨x2.toArray⟩) := (hb2.cell (p := ⟨wr.heap.size, 2, none⟩) (alloc_lt _ _)).trans (alloc3 wr _ _ _ _).2.2
          have HBE := Lib.hid (((Below.refl wr.heap.size wr).alloc (Nat.le_refl _) (.cells #[.int .i64 (n0 : Int), .int .i64 (n1 : Int), .string ⟨x2.toArray⟩] 42)).trans (hb2.mono (Nat.le_of_lt (alloc_lt _ _))))
          have HB2 := Lib.hid (HBQ.out.trans (HBE.out.mono HBQ.out.size))
          clear hb2 HBN
          go_wp2
          go_roundg (gk - 1)
          case measure => have := HG.out; omega
          case rel => exact ⟨k + 1, i + (n0 + n1), out2, zs, pc, c - (n0 + n1), by have := HG.out; omega, by go_num, rfl, rfl, HYZ.out, HZL.out, hzc, by omega, HPC.out.below HBE.out, HOB.out, HFT.out, HB2.out⟩
        · have HFE := Lib.hid (show RT = if i = x.length then (out, 0) else ([], 1) from HFS.out i out (by have := HFO.out; rwa [List.take_of_length_le (by omega)] at this))
          by_cases hz : ys.length = 0
          · have HRE := Lib.hid (show RT = (out, 0) by rw [HFE.out, if_pos (by have := HYL.out; omega)])
            go_wp2
            go_ret2
            exact ⟨by rw [HRE.out]; rfl, HBA.out.trans (HBQ.out.mono HBA.out.size)⟩
          · have HRE := Lib.hid (show RT = ([], 1) by rw [HFE.out, if_neg (by have := HYL.out; omega)])
            go_wp2
            go_ret2
            exact ⟨by rw [HRE.out]; rfl, HBA.out.trans (HBQ.out.mono HBA.out.size)⟩
end Go.Proofs.Ytipoifokcnbfnaa
