/- fresh. -/
import Derived.Test.YtcgioboiebanpaaNg
namespace Go.Proofs.Ytcgioboiebanpaa
open Go.RowKit
set_option linter.unusedVariables false

theorem blk_ld {W : World} {b n : Nat} {z : Array Value} {t : TypeId} (h : W.heap[b]? = some (.cells z t (0, 0))) (hs : z.size = n) : fits W ⟨b, 0, none⟩ n ∧ aggAt W ⟨b, 0, none⟩ n = z := by
  refine ⟨⟨rfl, _, _, _, h, by simp [hs]⟩, ?_⟩
  unfold aggAt
  rw [show W.heap[(⟨b, 0, none⟩ : Addr).block]? = some (.cells z t (0, 0)) from h]
  show z.extract 0 (0 + n) = _
  rw [Nat.zero_add, ← hs]
  simp
theorem run_one (x : RV) : ∀ u ∈ (runB x).toList, u.oneCell' = true := by
  intro u hu
  rw [runB_list] at hu
  simp only [List.mem_append, List.mem_cons, List.not_mem_nil, or_false] at hu
  rcases hu with (rfl | hu) | rfl | rfl | rfl
  · rfl
  · obtain ⟨c, _, rfl⟩ := List.mem_map.1 hu; rfl
  · rfl
  · rfl
  · rfl
/-- What fresh says. -/
def freshE (xs : List RV) (kt : Int) (kc : List UInt8) (ki m : Int) : Int := if xs.any (fun x => meetsB x kt kc ki m) = true then 11 else 0
set_option maxHeartbeats 4000000 in
set_option maxRecDepth 100000 in
theorem fresh_any (d : Nat) (a : Option Addr) (cap : Nat) (size live : Int) (xs : List RV) (kt : Int) (kc : List UInt8) (ki m : Int) (w : World) (hk : kc.length = 32) (hlen : xs.length ≤ 1000000)
    (hd : w.heap[d]? = some (.cells #[.slice a xs.length cap, .int .i64 size, .int .i64 live] 66 (0, 0))) (hin : runR.In w a xs) :
    Calls Try.prog 43 #[.pointer (some ⟨d, 0, none⟩), .agg (keyB kt kc ki), .int .i64 m] w fun e w' => e = .returned (.int .i64 (freshE xs kt kc ki m)) ∧ Below w.heap.size w w' := by
  obtain ⟨W, hW⟩ : ∃ W, W = w.alloc (.cells (keyB kt kc ki) 26) := ⟨_, rfl⟩
  obtain ⟨bk, hbk⟩ : ∃ b, b = w.heap.size := ⟨_, rfl⟩
  have q1 := (Below.refl w.heap.size w).alloc (Nat.le_refl _) (.cells (keyB kt kc ki) 26)
  rw [← hW] at q1
  have hkb : W.heap[bk]? = some (.cells (keyB kt kc ki) 26 (0, 0)) := by rw [hW, hbk]; exact (MapKept.heap_alloc w _).1
  have hd' := (q1.block d (Array.getElem?_eq_some_iff.1 hd).1).trans hd
  have c1 : W.cell? ⟨d, 0, none⟩ = some (.slice a xs.length cap) := by rw [Lib.cell_of_heap hd']; rfl
  have HQ := Lib.hid q1
  have HKB := Lib.hid hkb
  have HIN := Lib.hid (hin.below q1)
  have HK := Lib.hid hk
  have hks : (keyB kt kc ki).size = 34 := by rw [keyB_size, hk]
  have HKS := Lib.hid hks
  clear q1 hkb hd hd' hin hks
  go_enter Try.func43, Try.ntmps43
  go_upto_region 1 with fail
  rw [← hW, ← hbk]
  clear hW hbk
  go_wp2_with fail
  go_loopg [14] xs.length (fun g v wr => ∃ k : Nat, g + k = xs.length ∧ v = .int .i64 k ∧ (xs.take k).any (fun x => meetsB x kt kc ki m) = false ∧ Below W.heap.size W wr)
  case atStart => exact ⟨0, by omega, rfl, by simp, Below.refl _ _⟩
  case round =>
    obtain ⟨k, hg, rfl, hall, hbw⟩ := hrel
    have HG := Lib.hid hg
    have HA := Lib.hid hall
    have HB := Lib.hid hbw
    clear hg hall hbw c1
    by_cases hkx : k < xs.length
    · have HKX := Lib.hid hkx
      rcases (HIN.out.below HB.out).2 with h | ⟨b, off, rfl, hlt, hc⟩
      · rw [h] at hkx; simp at hkx
      have hxx : xs[k]? = some xs[k] := List.getElem?_eq_getElem hkx
      have hat := hc k _ hxx
      have HX32 := Lib.hid (HIN.out.1 _ (List.getElem_mem hkx))
      have HTK := Lib.hid (show xs.take (k + 1) = xs.take k ++ [xs[k]] from List.take_succ_eq_append_getElem hkx)
      generalize xs[k] = x at *
      have i1 : (k : Int) < xs.length := by omega
      have e1 : fits wr ⟨b, off + k * 36, none⟩ 36 := hat.1
      have e2 : aggAt wr ⟨b, off + k * 36, none⟩ 36 = runB x := by
        have h3 : (aggAt wr ⟨b, off + k * 36, none⟩ 36) = (runR.enc x).toArray := hat.2
        rw [h3]; rfl
      have q7 : b < wr.heap.size := hlt
      clear hat hc hxx hlt
      go_wp2_with (refine wpList_store_blk 70 36 (by kernel_rfl) rfl _ _ rfl wr.heap.size (runB x) (runB_size x HX32.out) (run_one x) rfl rfl _ (MapKept.heap_alloc wr _).1 (by rfl) ?_)
      intro w2 s1 s2 s3
      have HW2 := Lib.hid (show Below wr.heap.size wr w2 from ((Below.refl wr.heap.size wr).alloc (Nat.le_refl _) _).trans ⟨s3.os, s3.tape, s3.output, s3.size, fun j hj => s3.block j (by simp; omega) (by simp; omega)⟩)
      have HB2 := Lib.hid (HB.out.trans (HW2.out.mono HB.out.size))
      have f1 := (blk_ld s1 (runB_size x HX32.out)).1
      have f2 := (blk_ld s1 (runB_size x HX32.out)).2
      have hk2 := (HB2.out.block bk (Array.getElem?_eq_some_iff.1 HKB.out).1).trans HKB.out
      have g1 := (blk_ld hk2 HKS.out).1
      have g2 := (blk_ld hk2 HKS.out).2
      clear s1 s2 s3 hk2 e1 e2 q7
      go_wp2_with fail
      refine (meets_any x kt kc ki m HX32.out HK.out w2).mono ?_
      rintro e w3 ⟨rfl, hb3⟩
      have HB3 := Lib.hid (HB2.out.trans (hb3.mono HB2.out.size))
      clear hb3 f1 f2 g1 g2
      cases hm : meetsB x kt kc ki m with
      | true =>
        have HE := Lib.hid (show freshE xs kt kc ki m = 11 from if_pos <| List.any_eq_true.2 ⟨x, List.mem_of_mem_take (HTK.out ▸ List.mem_append.2 (.inr (List.mem_singleton.2 rfl)) : x ∈ xs.take (k + 1)), hm⟩)
        clear hm
        go_wp2
        go_ret
        exact ⟨ret_i HE.out.symm, HQ.out.trans (HB3.out.mono HQ.out.size)⟩
      | false =>
        have HT := Lib.hid (show (xs.take (k + 1)).any (fun x => meetsB x kt kc ki m) = false by rw [HTK.out, List.any_append, HA.out]; simp [hm])
        clear hm
        go_wp2
        go_roundg (gk - 1)
        case measure => have := HG.out; have := HKX.out; omega
        case rel => exact ⟨k + 1, by have := HG.out; have := HKX.out; omega, by go_num, HT.out, HB3.out⟩
    · have i1 : ¬ (k : Int) < xs.length := by omega
      have HE := Lib.hid (show freshE xs kt kc ki m = 0 by have := HA.out; rw [List.take_of_length_le (by omega)] at this; unfold freshE; rw [this]; rfl)
      go_wp2
      go_ret
      exact ⟨ret_i HE.out.symm, HQ.out.trans (HB.out.mono HQ.out.size)⟩
end Go.Proofs.Ytcgioboiebanpaa

namespace Go.Proofs.Ytcgioboiebanpaa
open Go.RowKit
set_option linter.unusedVariables false

/-- Which run holds a key. -/
def findI (xs : List RV) (kt : Int) (kc : List UInt8) (ki : Int) : Option Nat := xs.findIdx? fun x => holdsB x kt kc ki
/-- What find says. -/
def findV (xs : List RV) (kt : Int) (kc : List UInt8) (ki : Int) : Value := match findI xs kt kc ki with
  | some k => .tuple #[.int .i64 k, .int .i64 (holdsN (xs.getD k ((0, [], 0), (none, 0, 0), false)) ki), .bool true]
  | none => .tuple #[.int .i64 0, .int .i64 0, .bool false]
theorem findI_some {xs : List RV} {kt : Int} {kc : List UInt8} {ki : Int} {k : Nat} {x : RV} (hx : xs[k]? = some x) (h : holdsB x kt kc ki = true) (hall : (xs.take k).any (fun x => holdsB x kt kc ki) = false) : findV xs kt kc ki = .tuple #[.int .i64 k, .int .i64 (holdsN x ki), .bool true] := by
  obtain ⟨hk, he⟩ := List.getElem?_eq_some_iff.1 hx
  have hf : findI xs kt kc ki = some k := by
    unfold findI
    rw [List.findIdx?_eq_some_iff_getElem]
    refine ⟨hk, by rw [he]; exact h, fun j hj => ?_⟩
    have := List.any_eq_false.1 hall xs[j] (List.mem_iff_getElem.2 ⟨j, by rw [List.length_take]; omega, by rw [List.getElem_take]⟩)
    simpa using this
  unfold findV
  rw [hf]
  simp only [List.getD_eq_getElem?_getD, hx, Option.getD_some]
theorem findI_none {xs : List RV} {kt : Int} {kc : List UInt8} {ki : Int} (hall : xs.any (fun x => holdsB x kt kc ki) = false) : findV xs kt kc ki = .tuple #[.int .i64 0, .int .i64 0, .bool false] := by
  have hf : findI xs kt kc ki = none := by
    unfold findI
    rw [List.findIdx?_eq_none_iff]
    exact fun x hx => by simpa using List.any_eq_false.1 hall x hx
  unfold findV
  rw [hf]
set_option maxHeartbeats 4000000 in
set_option maxRecDepth 100000 in
theorem find_any (d : Nat) (a : Option Addr) (cap : Nat) (size live : Int) (xs : List RV) (kt : Int) (kc : List UInt8) (ki : Int) (w : World) (hk : kc.length = 32) (hlen : xs.length ≤ 1000000)
    (hd : w.heap[d]? = some (.cells #[.slice a xs.length cap, .int .i64 size, .int .i64 live] 66 (0, 0))) (hin : runR.In w a xs) :
    Calls Try.prog 41 #[.pointer (some ⟨d, 0, none⟩), .agg (keyB kt kc ki)] w fun e w' => e = .returned (findV xs kt kc ki) ∧ Below w.heap.size w w' := by
  obtain ⟨W, hW⟩ : ∃ W, W = w.alloc (.cells (keyB kt kc ki) 26) := ⟨_, rfl⟩
  obtain ⟨bk, hbk⟩ : ∃ b, b = w.heap.size := ⟨_, rfl⟩
  have q1 := (Below.refl w.heap.size w).alloc (Nat.le_refl _) (.cells (keyB kt kc ki) 26)
  rw [← hW] at q1
  have hkb : W.heap[bk]? = some (.cells (keyB kt kc ki) 26 (0, 0)) := by rw [hW, hbk]; exact (MapKept.heap_alloc w _).1
  have hd' := (q1.block d (Array.getElem?_eq_some_iff.1 hd).1).trans hd
  have c1 : W.cell? ⟨d, 0, none⟩ = some (.slice a xs.length cap) := by rw [Lib.cell_of_heap hd']; rfl
  have HQ := Lib.hid q1
  have HKB := Lib.hid hkb
  have HIN := Lib.hid (hin.below q1)
  have HK := Lib.hid hk
  have hks : (keyB kt kc ki).size = 34 := by rw [keyB_size, hk]
  have HKS := Lib.hid hks
  clear q1 hkb hd hd' hin hks
  go_enter Try.func41, Try.ntmps41
  go_upto_region 1 with fail
  rw [← hW, ← hbk]
  clear hW hbk
  go_wp2_with fail
  go_loopg [16] xs.length (fun g v wr => ∃ k : Nat, g + k = xs.length ∧ v = .int .i64 k ∧ (xs.take k).any (fun x => holdsB x kt kc ki) = false ∧ Below W.heap.size W wr)
  case atStart => exact ⟨0, by omega, rfl, by simp, Below.refl _ _⟩
  case round =>
    obtain ⟨k, hg, rfl, hall, hbw⟩ := hrel
    have HG := Lib.hid hg
    have HA := Lib.hid hall
    have HB := Lib.hid hbw
    clear hg hall hbw c1
    by_cases hkx : k < xs.length
    · have HKX := Lib.hid hkx
      rcases (HIN.out.below HB.out).2 with h | ⟨b, off, rfl, hlt, hc⟩
      · rw [h] at hkx; simp at hkx
      have hxx : xs[k]? = some xs[k] := List.getElem?_eq_getElem hkx
      have hat := hc k _ hxx
      have HX32 := Lib.hid (HIN.out.1 _ (List.getElem_mem hkx))
      have HTK := Lib.hid (show xs.take (k + 1) = xs.take k ++ [xs[k]] from List.take_succ_eq_append_getElem hkx)
      have HXX := Lib.hid hxx
      generalize xs[k] = x at *
      have i1 : (k : Int) < xs.length := by omega
      have e1 : fits wr ⟨b, off + k * 36, none⟩ 36 := hat.1
      have e2 : aggAt wr ⟨b, off + k * 36, none⟩ 36 = runB x := by
        have h3 : (aggAt wr ⟨b, off + k * 36, none⟩ 36) = (runR.enc x).toArray := hat.2
        rw [h3]; rfl
      have q7 : b < wr.heap.size := hlt
      clear hat hc hxx hlt
      go_wp2_with (refine wpList_store_blk 70 36 (by kernel_rfl) rfl _ _ rfl wr.heap.size (runB x) (runB_size x HX32.out) (run_one x) rfl rfl _ (MapKept.heap_alloc wr _).1 (by rfl) ?_)
      intro w2 s1 s2 s3
      have HW2 := Lib.hid (show Below wr.heap.size wr w2 from ((Below.refl wr.heap.size wr).alloc (Nat.le_refl _) _).trans ⟨s3.os, s3.tape, s3.output, s3.size, fun j hj => s3.block j (by simp; omega) (by simp; omega)⟩)
      have HB2 := Lib.hid (HB.out.trans (HW2.out.mono HB.out.size))
      have f1 := (blk_ld s1 (runB_size x HX32.out)).1
      have f2 := (blk_ld s1 (runB_size x HX32.out)).2
      have hk2 := (HB2.out.block bk (Array.getElem?_eq_some_iff.1 HKB.out).1).trans HKB.out
      have g1 := (blk_ld hk2 HKS.out).1
      have g2 := (blk_ld hk2 HKS.out).2
      clear s1 s2 s3 hk2 e1 e2 q7
      go_wp2_with fail
      refine (holds_any x kt kc ki HX32.out HK.out w2).mono ?_
      rintro e w3 ⟨rfl, hb3⟩
      have HB3 := Lib.hid (HB2.out.trans (hb3.mono HB2.out.size))
      clear hb3 f1 f2 g1 g2
      cases hm : holdsB x kt kc ki with
      | true =>
        have HE := Lib.hid (findI_some HXX.out hm HA.out)
        clear hm
        go_wp2
        go_ret3
        exact ⟨by rw [HE.out]; rfl, HQ.out.trans (HB3.out.mono HQ.out.size)⟩
      | false =>
        have HT := Lib.hid (show (xs.take (k + 1)).any (fun x => holdsB x kt kc ki) = false by rw [HTK.out, List.any_append, HA.out]; simp [hm])
        clear hm
        go_wp2
        go_roundg (gk - 1)
        case measure => have := HG.out; have := HKX.out; omega
        case rel => exact ⟨k + 1, by have := HG.out; have := HKX.out; omega, by go_num, HT.out, HB3.out⟩
    · have i1 : ¬ (k : Int) < xs.length := by omega
      have HE := Lib.hid (findI_none (xs := xs) (kt := kt) (kc := kc) (ki := ki) (by have := HA.out; rwa [List.take_of_length_le (by omega)] at this))
      go_wp2
      go_ret3
      exact ⟨by rw [HE.out]; rfl, HQ.out.trans (HB.out.mono HQ.out.size)⟩
end Go.Proofs.Ytcgioboiebanpaa

namespace Go.Proofs.Ytcgioboiebanpaa
open Go.RowKit
set_option linter.unusedVariables false

theorem key_one (t : Int) (c : List UInt8) (i : Int) : ∀ u ∈ (keyB t c i).toList, u.oneCell' = true := by
  intro u hu
  rw [keyB_list] at hu
  simp only [List.mem_append, List.mem_cons, List.not_mem_nil, or_false] at hu
  rcases hu with (rfl | hu) | rfl
  · rfl
  · obtain ⟨c, _, rfl⟩ := List.mem_map.1 hu; rfl
  · rfl
theorem heap_setCell_ne (w : World) (b off k : Nat) (v : Value) (h : k ≠ b) : (w.setCell ⟨b, off, none⟩ v).heap[k]? = w.heap[k]? := by
  have hb : ¬ b = k := fun e => h e.symm
  simp [World.setCell, Array.getElem?_modify, hb]
theorem two_new {w W : World} {o1 o2 : Obj} (hW : (w.alloc o1).alloc o2 = W) : Below w.heap.size w W ∧ W.heap[w.heap.size]? = some o1 ∧ W.heap[w.heap.size + 1]? = some o2 := by
  have q1 := (Below.refl w.heap.size w).alloc (Nat.le_refl _) o1
  have q2 : Below (w.alloc o1).heap.size (w.alloc o1) W := by rw [← hW]; exact (Below.refl _ _).alloc (Nat.le_refl _) _
  refine ⟨q1.trans (q2.mono q1.size), (q2.block _ (by simp)).trans (MapKept.heap_alloc w _).1, ?_⟩
  have := (MapKept.heap_alloc (w.alloc o1) o2).1
  rw [hW] at this
  simpa using this
set_option maxHeartbeats 2000000 in
set_option maxRecDepth 100000 in
theorem later_new (t : Int) (c : List UInt8) (i n : Int) (hc : c.length = 32) (w : World) :
    Calls Try.prog 28 #[.agg (keyB t c i), .int .i64 n] w fun e w' => e = .returned (.agg (keyB t c (wrap64 (i + n)))) ∧ Below w.heap.size w w' ∧ ∀ k, w.heap.size ≤ k → ∀ cur, w'.heap[k]? ≠ some (.cells cur 70 (0, 0)) := by
  go_enter Try.func28, Try.ntmps28
  go_upto_region 1 with fail
  generalize hW : (w.alloc (.cells (keyB t c i) 26)).alloc _ = W
  obtain ⟨b1, hb1⟩ : ∃ b, b = w.heap.size := ⟨_, rfl⟩
  obtain ⟨b2, hb2⟩ : ∃ b, b = w.heap.size + 1 := ⟨_, rfl⟩
  obtain ⟨q3, h1, h2⟩ := two_new hW
  rw [← hb1] at h1
  rw [← hb2] at h2
  rw [← hb2, ← hb1]
  have HQ := Lib.hid q3
  have hne : b2 ≠ b1 := by omega
  have HLT := Lib.hid (show w.heap.size ≤ b1 ∧ w.heap.size ≤ b2 by omega)
  have HB12 := Lib.hid (show b1 = w.heap.size ∧ b2 = w.heap.size + 1 ∧ W.heap.size = w.heap.size + 2 by refine ⟨hb1, hb2, ?_⟩; rw [← hW]; simp)
  have r1 : W.cell? ⟨b1, 33, none⟩ = some (.int .i64 i) := KeyAt.c33 h1 hc
  have r2 : W.frozen? ⟨b1, 33, none⟩ = false := Lib.frozen_of_heap h1 33
  have h3 := heap_setCell_at (off := 33) h1 (.int .i64 (wrap64 (i + n)))
  rw [keyB_set t c i _ hc] at h3
  have h4 : (W.setCell ⟨b1, 33, none⟩ (.int .i64 (wrap64 (i + n)))).heap[b2]? = _ := (heap_setCell_ne W b1 33 b2 _ hne).trans h2
  have HB := Lib.hid (HQ.out.setCell (p := ⟨b1, 33, none⟩) HLT.out.1 (.int .i64 (wrap64 (i + n))))
  have HXS := Lib.hid (show (W.setCell ⟨b1, 33, none⟩ (.int .i64 (wrap64 (i + n)))).heap.size = W.heap.size by simp)
  have HX1 := Lib.hid h3
  clear hW hb1 hb2 q3 h1 h2
  go_upto_region 2 with fail
  have f1 := (blk_ld h3 (show _ = 34 by rw [keyB_size, hc])).1
  have f2 := (blk_ld h3 (show _ = 34 by rw [keyB_size, hc])).2
  generalize W.setCell ⟨b1, 33, none⟩ (.int .i64 (wrap64 (i + n))) = X at *
  clear h3
  go_wp2_with (refine wpList_store_blk 26 34 (by kernel_rfl) rfl _ _ rfl b2 (keyB t c (wrap64 (i + n))) (by rw [keyB_size, hc]) (key_one _ _ _) rfl rfl _ h4 (by rfl) ?_)
  intro w2 s1 s2 s3
  clear h4 f1 f2
  go_wp2
  have hcs : (Try.prog.info? 26).map (·.size) = some (keyB t c (wrap64 (i + n))).size := by
    rw [keyB_size, hc]; kernel_rfl
  refine ⟨rfl, .agg (keyB t c (wrap64 (i + n))), results_cell_row (P := Try.prog) (fn := Try.f28) (p := 4) (ty := 26) rfl _ w2 b2 26 (keyB t c (wrap64 (i + n))) (0, 0) _ rfl s1 Try.underlying26 rfl hcs, rfl, HB.out.trans ⟨s3.os, s3.tape, s3.output, s3.size, fun j hj => s3.block j (by have := HB.out.size; omega) (by have := HLT.out.2; simp; omega)⟩, ?_⟩
  intro k hk cur hcur
  have hk1 : k = b1 ∨ k = b2 ∨ X.heap.size ≤ k := by have := HXS.out; have := HB12.out; omega
  rcases hk1 with rfl | rfl | h
  · rw [s2 _ (by have := HB12.out; omega), HX1.out] at hcur; cases hcur
  · rw [s1] at hcur; cases hcur
  · rw [s2 _ (by have := HB12.out; have := HXS.out; omega), Array.getElem?_eq_none h] at hcur; cases hcur
theorem later_any (t : Int) (c : List UInt8) (i n : Int) (hc : c.length = 32) (w : World) :
    Calls Try.prog 28 #[.agg (keyB t c i), .int .i64 n] w fun e w' => e = .returned (.agg (keyB t c (wrap64 (i + n)))) ∧ Below w.heap.size w w' :=
  (later_new t c i n hc w).mono fun _ _ h => ⟨h.1, h.2.1⟩
end Go.Proofs.Ytcgioboiebanpaa

namespace Go.Proofs.Ytcgioboiebanpaa
open Go.RowKit
set_option linter.unusedVariables false

/-- Live elements of some runs, as an int64 counts them. -/
def placeW (xs : List RV) : Int := xs.foldl (fun p x => if x.2.2 = true then p else wrap64 (p + x.2.1.2.1)) 0
theorem placeW_snoc (xs : List RV) (x : RV) : placeW (xs ++ [x]) = if x.2.2 = true then placeW xs else wrap64 (placeW xs + x.2.1.2.1) := by unfold placeW; rw [List.foldl_append]; rfl
/-- What Find says. -/
def FindV (xs : List RV) (kt : Int) (kc : List UInt8) (ki : Int) : Value := match findI xs kt kc ki with
  | some k => if (xs.getD k ((0, [], 0), (none, 0, 0), false)).2.2 = true then .tuple #[.int .i64 (placeW (xs.take k)), .bool false, .int .i64 0]
    else .tuple #[.int .i64 (wrap64 (placeW (xs.take k) + holdsN (xs.getD k ((0, [], 0), (none, 0, 0), false)) ki)), .bool true, .int .i64 0]
  | none => .tuple #[.int .i64 0, .bool false, .int .i64 12]
theorem findI_is {xs : List RV} {kt : Int} {kc : List UInt8} {ki : Int} {k : Nat} {x : RV} (hx : xs[k]? = some x) (h : holdsB x kt kc ki = true) (hall : (xs.take k).any (fun x => holdsB x kt kc ki) = false) : findI xs kt kc ki = some k ∧ xs.getD k ((0, [], 0), (none, 0, 0), false) = x := by
  obtain ⟨hk, he⟩ := List.getElem?_eq_some_iff.1 hx
  refine ⟨?_, by simp only [List.getD_eq_getElem?_getD, hx, Option.getD_some]⟩
  unfold findI
  rw [List.findIdx?_eq_some_iff_getElem]
  refine ⟨hk, by rw [he]; exact h, fun j hj => ?_⟩
  have := List.any_eq_false.1 hall xs[j] (List.mem_iff_getElem.2 ⟨j, by rw [List.length_take]; omega, by rw [List.getElem_take]⟩)
  simpa using this
set_option maxHeartbeats 4000000 in
set_option maxRecDepth 100000 in
theorem Find_any (d : Nat) (a : Option Addr) (cap : Nat) (size live : Int) (xs : List RV) (kt : Int) (kc : List UInt8) (ki : Int) (w : World) (hk : kc.length = 32) (hlen : xs.length ≤ 1000000)
    (hd : w.heap[d]? = some (.cells #[.slice a xs.length cap, .int .i64 size, .int .i64 live] 66 (0, 0))) (hin : runR.In w a xs) :
    Calls Try.prog 22 #[.pointer (some ⟨d, 0, none⟩), .agg (keyB kt kc ki)] w fun e w' => e = .returned (FindV xs kt kc ki) ∧ Below w.heap.size w w' := by
  obtain ⟨W, hW⟩ : ∃ W, W = w.alloc (.cells (keyB kt kc ki) 26) := ⟨_, rfl⟩
  obtain ⟨bk, hbk⟩ : ∃ b, b = w.heap.size := ⟨_, rfl⟩
  have q1 := (Below.refl w.heap.size w).alloc (Nat.le_refl _) (.cells (keyB kt kc ki) 26)
  rw [← hW] at q1
  have hkb : W.heap[bk]? = some (.cells (keyB kt kc ki) 26 (0, 0)) := by rw [hW, hbk]; exact (MapKept.heap_alloc w _).1
  have hd' := (q1.block d (Array.getElem?_eq_some_iff.1 hd).1).trans hd
  have c1 : W.cell? ⟨d, 0, none⟩ = some (.slice a xs.length cap) := by rw [Lib.cell_of_heap hd']; rfl
  have HQ := Lib.hid q1
  have HKB := Lib.hid hkb
  have HIN := Lib.hid (hin.below q1)
  have HK := Lib.hid hk
  have hks : (keyB kt kc ki).size = 34 := by rw [keyB_size, hk]
  have HKS := Lib.hid hks
  clear q1 hkb hd hd' hin hks
  go_enter Try.func22, Try.ntmps22
  go_upto_region 1 with fail
  rw [← hW, ← hbk]
  clear hW hbk
  go_wp2_with fail
  go_loopg [4, 18] xs.length (fun g p v wr => ∃ k : Nat, g + k = xs.length ∧ p = .int .i64 (placeW (xs.take k)) ∧ v = .int .i64 k ∧ (xs.take k).any (fun x => holdsB x kt kc ki) = false ∧ Below W.heap.size W wr)
  case atStart => exact ⟨0, by omega, rfl, rfl, by simp, Below.refl _ _⟩
  case round =>
    obtain ⟨k, hg, rfl, rfl, hall, hbw⟩ := hrel
    have HG := Lib.hid hg
    have HA := Lib.hid hall
    have HB := Lib.hid hbw
    clear hg hall hbw c1
    by_cases hkx : k < xs.length
    · have HKX := Lib.hid hkx
      rcases (HIN.out.below HB.out).2 with h | ⟨b, off, rfl, hlt, hc⟩
      · rw [h] at hkx; simp at hkx
      have hxx : xs[k]? = some xs[k] := List.getElem?_eq_getElem hkx
      have hat := hc k _ hxx
      have HX32 := Lib.hid (HIN.out.1 _ (List.getElem_mem hkx))
      have HTK := Lib.hid (show xs.take (k + 1) = xs.take k ++ [xs[k]] from List.take_succ_eq_append_getElem hkx)
      have HXX := Lib.hid hxx
      generalize xs[k] = x at *
      have i1 : (k : Int) < xs.length := by omega
      have e1 : fits wr ⟨b, off + k * 36, none⟩ 36 := hat.1
      have e2 : aggAt wr ⟨b, off + k * 36, none⟩ 36 = runB x := by
        have h3 : (aggAt wr ⟨b, off + k * 36, none⟩ 36) = (runR.enc x).toArray := hat.2
        rw [h3]; rfl
      have q7 : b < wr.heap.size := hlt
      clear hat hc hxx hlt
      go_wp2_with (refine wpList_store_blk 70 36 (by kernel_rfl) rfl _ _ rfl wr.heap.size (runB x) (runB_size x HX32.out) (run_one x) rfl rfl _ (MapKept.heap_alloc wr _).1 (by rfl) ?_)
      intro w2 s1 s2 s3
      have HW2 := Lib.hid (show Below wr.heap.size wr w2 from ((Below.refl wr.heap.size wr).alloc (Nat.le_refl _) _).trans ⟨s3.os, s3.tape, s3.output, s3.size, fun j hj => s3.block j (by simp; omega) (by simp; omega)⟩)
      have HB2 := Lib.hid (HB.out.trans (HW2.out.mono HB.out.size))
      have f1 := (blk_ld s1 (runB_size x HX32.out)).1
      have f2 := (blk_ld s1 (runB_size x HX32.out)).2
      have hk2 := (HB2.out.block bk (Array.getElem?_eq_some_iff.1 HKB.out).1).trans HKB.out
      have g1 := (blk_ld hk2 HKS.out).1
      have g2 := (blk_ld hk2 HKS.out).2
      have HS1 := Lib.hid s1
      clear s1 s2 s3 hk2 e1 e2 q7
      go_wp2_with fail
      refine (holds_any x kt kc ki HX32.out HK.out w2).mono ?_
      rintro e w3 ⟨rfl, hb3⟩
      have HB3 := Lib.hid (HB2.out.trans (hb3.mono HB2.out.size))
      have hs3 := (hb3.block wr.heap.size (Array.getElem?_eq_some_iff.1 HS1.out).1).trans HS1.out
      have hra := RunAt.of HX32.out (blk_ld hs3 (runB_size x HX32.out)).1 (blk_ld hs3 (runB_size x HX32.out)).2
      have e5 := hra.r
      have e6 := hra.d
      simp only [Nat.zero_add] at e5 e6
      have HPS := Lib.hid (placeW_snoc (xs.take k) x)
      rw [← HTK.out] at HPS
      obtain ⟨P0, hP0⟩ : ∃ P0, P0 = placeW (xs.take k) := ⟨_, rfl⟩
      have HP0 := Lib.hid hP0
      rw [← hP0] at HPS ⊢
      clear hb3 f1 f2 g1 g2 hs3 hra hP0
      obtain ⟨⟨xt, xc, xi⟩, ⟨xa, xn, xk⟩, xd⟩ := x
      simp only at e5 e6
      cases hm : holdsB ((xt, xc, xi), (xa, xn, xk), xd) kt kc ki with
      | true =>
        have HI := Lib.hid (findI_is HXX.out hm HA.out)
        clear hm
        cases xd with
        | true =>
          have HE := Lib.hid (show FindV xs kt kc ki = .tuple #[.int .i64 P0, .bool false, .int .i64 0] by unfold FindV; rw [HI.out.1]; simp only [HI.out.2]; rw [HP0.out]; rfl)
          go_wp2
          go_ret3
          exact ⟨by rw [HE.out]; rfl, HQ.out.trans (HB3.out.mono HQ.out.size)⟩
        | false =>
          have HE := Lib.hid (show FindV xs kt kc ki = .tuple #[.int .i64 (wrap64 (P0 + holdsN ((xt, xc, xi), (xa, xn, xk), false) ki)), .bool true, .int .i64 0] by unfold FindV; rw [HI.out.1]; simp only [HI.out.2]; rw [HP0.out]; rfl)
          go_wp2
          go_ret3
          exact ⟨by rw [HE.out]; rfl, HQ.out.trans (HB3.out.mono HQ.out.size)⟩
      | false =>
        have HT := Lib.hid (show (xs.take (k + 1)).any (fun x => holdsB x kt kc ki) = false by rw [HTK.out, List.any_append, HA.out]; simp [hm])
        clear hm
        cases xd with
        | true =>
          go_wp2
          go_roundg (gk - 1)
          case measure => have := HG.out; have := HKX.out; omega
          case rel => exact ⟨k + 1, by have := HG.out; have := HKX.out; omega, by rw [HPS.out]; rfl, by go_num, HT.out, HB3.out⟩
        | false =>
          go_wp2
          go_roundg (gk - 1)
          case measure => have := HG.out; have := HKX.out; omega
          case rel => exact ⟨k + 1, by have := HG.out; have := HKX.out; omega, by rw [HPS.out]; rfl, by go_num, HT.out, HB3.out⟩
    · have i1 : ¬ (k : Int) < xs.length := by omega
      have HE := Lib.hid (show FindV xs kt kc ki = .tuple #[.int .i64 0, .bool false, .int .i64 12] by
        have h9 := HA.out
        rw [List.take_of_length_le (by omega)] at h9
        have hf : findI xs kt kc ki = none := by
          unfold findI
          rw [List.findIdx?_eq_none_iff]
          exact fun x hx => by simpa using List.any_eq_false.1 h9 x hx
        unfold FindV
        rw [hf])
      go_wp2
      go_ret3
      exact ⟨by rw [HE.out]; rfl, HQ.out.trans (HB.out.mono HQ.out.size)⟩
end Go.Proofs.Ytcgioboiebanpaa
