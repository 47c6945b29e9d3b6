/- Past. -/
import Derived.Test.YtmmmimkikakalaaNp
namespace Go.Proofs.Ytmmmimkikakalaa
open Go.RowKit Go.Maps
set_option linter.unusedVariables false

/-- An id's box, and a slice of it behind. -/
theorem box_one (w : World) (x : List UInt8) (hx : x.length = 32) (W : World) (hW : W = w.alloc (.cells (idB x) 24)) (blk : Nat) (hblk : blk = w.heap.size) :
    Below w.heap.size w W ∧ fits W ⟨blk, 0, none⟩ 32 ∧ aggAt W ⟨blk, 0, none⟩ 32 = idB x ∧ Below W.heap.size W (W.alloc (.cells (idB x) 24)) ∧ IdsIn (W.alloc (.cells (idB x) 24)) (some ⟨W.heap.size, 0, none⟩) [x] := by
  refine ⟨by rw [hW]; exact (Below.refl w.heap.size w).alloc (Nat.le_refl _) _, by rw [hW, hblk]; exact fits_new w (idB x) 24 32 (by rw [idB_size, hx]), by rw [hW, hblk]; exact aggAt_new w (idB x) 24 32 (by rw [idB_size, hx]), (Below.refl W.heap.size W).alloc (Nat.le_refl _) _, one_new hx⟩

set_option maxHeartbeats 2000000 in
set_option maxRecDepth 100000 in
theorem past_nil (x : List UInt8) (hx : x.length = 32) (w : World) : Calls Try.prog 19 #[.pointer none, .agg (idB x)] w fun e w' => e = .returned (.tuple #[.slice none 0 0, .int .i64 1]) ∧ Below w.heap.size w w' := by
  obtain ⟨W, hW⟩ : ∃ W, W = w.alloc (.cells (idB x) 24) := ⟨_, rfl⟩
  obtain ⟨blk, hblk⟩ : ∃ b, b = w.heap.size := ⟨_, rfl⟩
  obtain ⟨hb0, f1, f2, hbq, hin⟩ := box_one w x hx W hW blk hblk
  have HBQ := Lib.hid (hb0.trans (hbq.mono hb0.size))
  clear hb0 hbq hin
  have hx32 : x.length = 32 := hx
  go_enter Try.func19, Try.ntmps19
  go_upto_region 1 with fail
  rw [← hW, ← hblk]
  clear hW hblk
  go_wp2_with fail
  refine (known_nil _ _).mono ?_
  rintro e w2 ⟨rfl, hb2⟩
  have HB2 := Lib.hid (HBQ.out.trans (hb2.mono HBQ.out.size))
  clear hb2 f1 f2
  go_wp2
  go_ret2
  exact ⟨rfl, HB2.out⟩
set_option maxHeartbeats 2000000 in
set_option maxRecDepth 100000 in
theorem past_no (gb mb : Nat) (G : List GN) (x : List UInt8) (hx : x.length = 32) (w : World) (hG : GraphAt w gb mb G) (hn : isNode G x = false) : Calls Try.prog 19 #[.pointer (some ⟨gb, 0, none⟩), .agg (idB x)] w fun e w' => e = .returned (.tuple #[.slice none 0 0, .int .i64 12]) ∧ Below w.heap.size w w' := by
  obtain ⟨W, hW⟩ : ∃ W, W = w.alloc (.cells (idB x) 24) := ⟨_, rfl⟩
  obtain ⟨blk, hblk⟩ : ∃ b, b = w.heap.size := ⟨_, rfl⟩
  obtain ⟨hb0, f1, f2, hbq, hin⟩ := box_one w x hx W hW blk hblk
  have HBQ := Lib.hid (hb0.trans (hbq.mono hb0.size))
  have HKN := Lib.hid (known_any gb mb G (some ⟨W.heap.size, 0, none⟩) 1 [x] (W.alloc (.cells (idB x) 24)) (by simp) ((hG.below hb0).below hbq) hin)
  have hk : knownE G [x] = 12 := by unfold knownE; simp [hn]
  rw [hk] at HKN
  clear hb0 hbq hin hG hk hn
  have hx32 : x.length = 32 := hx
  go_enter Try.func19, Try.ntmps19
  go_upto_region 1 with fail
  rw [← hW, ← hblk]
  clear hW hblk
  go_wp2_with fail
  refine HKN.out.mono ?_
  rintro e w2 ⟨rfl, hb2⟩
  have HB2 := Lib.hid (HBQ.out.trans (hb2.mono HBQ.out.size))
  clear hb2 f1 f2
  go_wp2
  go_ret2
  exact ⟨rfl, HB2.out⟩
set_option maxHeartbeats 4000000 in
set_option maxRecDepth 100000 in
theorem past_any (gb mb : Nat) (G : List GN) (x : List UInt8) (w : World) (hlen : G.length ≤ 1000) (hwf : Wf G) (hG : GraphAt w gb mb G) (hn : isNode G x = true) :
    Calls Try.prog 19 #[.pointer (some ⟨gb, 0, none⟩), .agg (idB x)] w fun e w' => ∃ v, e = .returned (.tuple #[v, .int .i64 0]) ∧ rowI w.heap.size (pastL G x) v w' ∧ Below w.heap.size w w' := by
  have hx := isNode_len hwf hn
  obtain ⟨W, hW⟩ : ∃ W, W = w.alloc (.cells (idB x) 24) := ⟨_, rfl⟩
  obtain ⟨blk, hblk⟩ : ∃ b, b = w.heap.size := ⟨_, rfl⟩
  obtain ⟨hb0, f1, f2, hbq, hin⟩ := box_one w x hx W hW blk hblk
  have HBQ := Lib.hid (hb0.trans (hbq.mono hb0.size))
  have HBW := Lib.hid hbq
  have HKN := Lib.hid (known_any gb mb G (some ⟨W.heap.size, 0, none⟩) 1 [x] (W.alloc (.cells (idB x) 24)) (by simp) ((hG.below hb0).below hbq) hin)
  have hk : knownE G [x] = 0 := by unfold knownE; simp [hn]
  rw [hk] at HKN
  have HF1 := Lib.hid f1
  have HF2 := Lib.hid f2
  have HG := Lib.hid hG
  have HN := Lib.hid hn
  have HWF := Lib.hid hwf
  have HLEN := Lib.hid hlen
  obtain ⟨PL, hPL⟩ : ∃ PL, PL = pastL G x := ⟨_, rfl⟩
  have HPL := Lib.hid hPL
  rw [← hPL]
  clear hb0 hbq hin hG hk hn hwf hPL
  have hx32 : x.length = 32 := hx
  go_enter Try.func19, Try.ntmps19
  go_upto_region 1 with fail
  rw [← hW, ← hblk]
  clear hW hblk
  go_wp2_with fail
  refine HKN.out.mono ?_
  rintro e w2 ⟨rfl, hb2⟩
  have HB2 := Lib.hid (HBQ.out.trans (hb2.mono HBQ.out.size))
  have hw2 := HBW.out.trans (hb2.mono HBW.out.size)
  have e1 := fits_below hw2 HF1.out
  have e2 := (agg_below hw2 HF1.out).trans HF2.out
  clear hb2 f1 f2 hw2
  go_wp2_with fail
  refine (back_any (some ⟨gb, 0, none⟩) x w2).mono ?_
  rintro e w3 ⟨rfl, hw3⟩
  have hq1 := (Below.refl w2.heap.size w2).alloc (Nat.le_refl _) (.cells #[.pointer (some ⟨gb, 0, none⟩)] 26)
  have hq2 := (Below.refl (w2.alloc (.cells #[.pointer (some ⟨gb, 0, none⟩)] 26)).heap.size (w2.alloc (.cells #[.pointer (some ⟨gb, 0, none⟩)] 26))).alloc (Nat.le_refl _) (.cells (idB x) 24)
  have hq := hq1.trans (hq2.mono hq1.size)
  have hs : (w2.alloc (.cells #[.pointer (some ⟨gb, 0, none⟩)] 26)).heap.size = w2.heap.size + 1 := by simp
  have c1 := fits_new (w2.alloc (.cells #[.pointer (some ⟨gb, 0, none⟩)] 26)) (idB x) 24 32 (by rw [idB_size, hx])
  have c2 := aggAt_new (w2.alloc (.cells #[.pointer (some ⟨gb, 0, none⟩)] 26)) (idB x) 24 32 (by rw [idB_size, hx])
  have hcell : w3.cell? ⟨w2.heap.size, 0, none⟩ = some (.pointer (some ⟨gb, 0, none⟩)) := by
    have h9 : w3.heap[w2.heap.size]? = some (.cells #[.pointer (some ⟨gb, 0, none⟩)] 26 (0, 0)) := by
      rw [hw3]
      exact (hq2.block _ (by simp)).trans (World.alloc_heap_new w2 _)
    rw [Lib.cell_of_heap h9]; rfl
  rw [hs] at c1 c2
  rw [← hw3] at hq c1 c2
  have HB3 := Lib.hid (HB2.out.trans (hq.mono HB2.out.size))
  have hsz3 : w2.heap.size < w3.heap.size := by rw [hw3]; simp; omega
  have HSQ := Lib.hid (back1_any (w2.heap.size + 1) w2.heap.size gb mb G x w3 HLEN.out HWF.out HN.out ⟨c1, c2⟩ hsz3 hcell (HG.out.below HB3.out))
  clear hw3 hq1 hq2 hq hs c1 c2 hcell hsz3 e1 e2
  go_wp2_with fail
  refine (collect_any 53 _ enter53 _ _ _ (by have := HLEN.out; omega) _ HSQ.out).mono ?_
  rintro e w4 ⟨v, xs, rfl, ⟨hnd, hmem⟩, hr, hb4⟩
  have HB4 := Lib.hid (HB3.out.trans (hb4.mono HB3.out.size))
  have H32 : ∀ z ∈ valsI xs, z.length = 32 := fun z hz => by obtain ⟨y, _, rfl⟩ := List.mem_map.1 hz; exact y.2
  obtain ⟨a2, c2, rfl, p1, p2, p3, p4⟩ := SlI_row H32 hr
  have hl : (valsI xs).length ≤ 1000000 := by
    have := nodes_len hnd (fun y hy => ((hmem y).1 hy).node HWF.out HN.out)
    have := HLEN.out; omega
  have HST := Lib.hid (set_any a2 c2 (valsI xs) w4 p1 p2 hl p3 p4)
  have HE := Lib.hid (show setL (valsI xs) = PL from (pastL_of HWF.out HN.out hmem).trans HPL.out.symm)
  clear hr hb4 p1 p2 p3 p4 hnd hmem
  go_wp2_with fail
  refine HST.out.mono ?_
  rintro e w5 ⟨v5, rfl, hr5, hb5⟩
  rw [HE.out] at hr5
  have HR5 := Lib.hid (ownsRow_base hr5 HB4.out.size)
  have HB5 := Lib.hid (HB4.out.trans (hb5.mono HB4.out.size))
  clear hr5 hb5
  go_wp2
  go_ret2
  exact ⟨v5, rfl, HR5.out, HB5.out⟩
end Go.Proofs.Ytmmmimkikakalaa

namespace Go.Proofs.Ytmmmimkikakalaa
open Go.RowKit Go.Maps
set_option linter.unusedVariables false
attribute [local go_sem] Oper.semAt_some
attribute [local go_sem ↓] semAt_run

/-- Between two rounds: what has come is not the one looked for; the result's cell still says no. -/
def IsI (w : World) (a : List UInt8) (b1 b3 : Nat) (xs : List Id32) (U : Nat → Prop) (W : World) : Prop :=
  (∀ y ∈ valsI xs, y ≠ a) ∧ W.heap[b1]? = some (.cells (idB a) 24 (0, 0)) ∧ W.heap[b3]? = some (.cells #[.bool false] 4 (0, 0)) ∧ (∀ k, ¬ U k) ∧ Below w.heap.size w W
/-- A round has left: it was met, and the cell says so. -/
def IsX (w : World) (a : List UInt8) (b3 : Nat) (c : Code) (xs : List Id32) (U : Nat → Prop) (W : World) : Prop :=
  c = .ret ∧ a ∈ valsI xs ∧ W.heap[b3]? = some (.cells #[.bool true] 4 (0, 0)) ∧ (∀ k, ¬ U k) ∧ Below w.heap.size w W
theorem isI_stays (w : World) (a : List UInt8) (b1 b3 B : Nat) (h1 : b1 < B) (h3 : b3 < B) (hB : w.heap.size ≤ B) : Stays B (IsI w a b1 b3) := by
  intro pre U W W' ⟨h, e1, e3, hu, hb⟩ ht
  refine ⟨h, (ht.block _ (Array.getElem?_eq_some_iff.1 e1).1 (fun h => by have : B ≤ b1 := h.1; omega)).trans e1, (ht.block _ (Array.getElem?_eq_some_iff.1 e3).1 (fun h => by have : B ≤ b3 := h.1; omega)).trans e3, hu, ?_⟩
  exact hb.trans ⟨ht.os, ht.tape, ht.output, ht.size, fun k hk => ht.block k (by have := hb.size; omega) (fun h => by have : B ≤ k := h.1; omega)⟩
theorem isX_stays (w : World) (a : List UInt8) (b3 B : Nat) (h3 : b3 < B) (hB : w.heap.size ≤ B) (c : Code) : Stays B (IsX w a b3 c) := by
  intro pre U W W' ⟨h, e1, e3, hu, hb⟩ ht
  refine ⟨h, e1, (ht.block _ (Array.getElem?_eq_some_iff.1 e3).1 (fun h => by have : B ≤ b3 := h.1; omega)).trans e3, hu, ?_⟩
  exact hb.trans ⟨ht.os, ht.tape, ht.output, ht.size, fun k hk => ht.block k (by have := hb.size; omega) (fun h => by have : B ≤ k := h.1; omega)⟩

set_option maxHeartbeats 4000000 in
set_option maxRecDepth 100000 in
theorem is_any (gb mb : Nat) (G : List GN) (a b : List UInt8) (ha : a.length = 32) (hb : b.length = 32) (w : World) (hlen : G.length ≤ 1000) (hwf : Wf G) (hG : GraphAt w gb mb G) :
    Calls Try.prog 14 #[.pointer (some ⟨gb, 0, none⟩), .agg (idB a), .agg (idB b)] w fun e w' => e = .returned (.bool (isR G a b)) ∧ Below w.heap.size w w' := by
  obtain ⟨W2, hW2⟩ : ∃ W, W = (w.alloc (.cells (idB a) 24)).alloc (.cells (idB b) 24) := ⟨_, rfl⟩
  obtain ⟨b1, hb1⟩ : ∃ b, b = w.heap.size := ⟨_, rfl⟩
  obtain ⟨b2, hb2⟩ : ∃ b, b = w.heap.size + 1 := ⟨_, rfl⟩
  obtain ⟨b3, hb3⟩ : ∃ b, b = w.heap.size + 1 + 1 := ⟨_, rfl⟩
  obtain ⟨hq, a1, a2, c1, c2⟩ := two_boxes w a b ha hb W2 hW2 b1 hb1 b2 hb2
  have hs2 : W2.heap.size = b3 := by rw [hW2, hb3]; simp
  have hA1 : W2.heap[b1]? = some (.cells (idB a) 24 (0, 0)) := by
    rw [hW2, hb1]
    exact (Below.heap_alloc _ _ _ (by simp)).trans (World.alloc_heap_new w _)
  obtain ⟨W, hW⟩ : ∃ W, W = W2.alloc (.cells #[.bool false] 4) := ⟨_, rfl⟩
  have hq3 : Below W2.heap.size W2 W := by rw [hW]; exact (Below.refl _ _).alloc (Nat.le_refl _) _
  have hC3 : W.heap[b3]? = some (.cells #[.bool false] 4 (0, 0)) := by rw [hW, ← hs2]; exact World.alloc_heap_new W2 _
  have a1' := fits_below hq3 a1
  have a2' := (agg_below hq3 a1).trans a2
  have c1' := fits_below hq3 c1
  have c2' := (agg_below hq3 c1).trans c2
  have hA1' : W.heap[b1]? = some (.cells (idB a) 24 (0, 0)) := (hq3.block b1 (Array.getElem?_eq_some_iff.1 hA1).1).trans hA1
  have hbW : Below w.heap.size w W := hq.trans (hq3.mono hq.size)
  have hbW1 := (Below.refl W.heap.size W).alloc (Nat.le_refl _) (.cells (idsC [a, b]).toArray 24)
  have hKN := known_any gb mb G (some ⟨W.heap.size, 0, none⟩) 2 [a, b] (W.alloc (.cells (idsC [a, b]).toArray 24)) (by simp) ((hG.below hbW).below hbW1) (ids_new W [a, b] (by simp [ha, hb]))
  have HA := Lib.hid ha
  have HB32 := Lib.hid hb
  have HBW := Lib.hid hbW
  have HBW1 := Lib.hid hbW1
  have HC3 := Lib.hid hC3
  have HA1 := Lib.hid hA1'
  have HLT3 := Lib.hid (show w.heap.size ≤ b1 ∧ b1 < b3 ∧ w.heap.size ≤ b3 by omega)
  have HCC := Lib.hid (And.intro c1' c2')
  have HG := Lib.hid hG
  have HWF := Lib.hid hwf
  have HLEN := Lib.hid hlen
  have hida := idOk_agg a ha
  have hidb := idOk_agg b hb
  have HKN := Lib.hid hKN
  have hs3 : (W2.alloc (.cells #[.bool false] 4)).heap.size = W2.heap.size + 1 := by simp
  clear hq a1 a2 c1 c2 hA1 hq3 hC3 hA1' hbW hbW1 hKN hG hwf hs3
  refine (callsIn_wide (n := 2)).1 ?_
  refine callsIn_of_wp_marks Try.func14 rfl trivial ?_ rfl
  simp only [Try.ntmps14, List.size_toArray, List.length_cons, List.length_nil, Nat.reduceAdd, Nat.reduceSub, Array.replicate_succ, Array.replicate_zero, List.push_toArray, List.append_toArray, List.nil_append, List.cons_append]
  refine (wpIn_wide (n := 2)).2 ?_
  go_upto_region 1 with fail
  rw [← hW2, ← hW, ← hb3, ← hb2, ← hb1]
  clear hW2 hW hb3 hb2 hb1
  by_cases hk : isNode G a = true ∧ isNode G b = true
  · rw [show knownE G [a, b] = 0 by unfold knownE; simp [hk.1, hk.2]] at HKN
    have HNA := Lib.hid hk.1
    have HNB := Lib.hid hk.2
    clear hk
    go_wp2_with fail
    refine HKN.out.mono ?_
    rintro e w2 ⟨rfl, hb2⟩
    have hw2 := HBW1.out.trans (hb2.mono HBW1.out.size)
    have HW2 := Lib.hid hw2
    have HB2 := Lib.hid (HBW.out.trans (hw2.mono HBW.out.size))
    have d1 := fits_below hw2 HCC.out.1
    have d2 := (agg_below hw2 HCC.out.1).trans HCC.out.2
    clear hb2 hw2 a1' a2' c1' c2'
    go_wp2_with fail
    refine (back_any (some ⟨gb, 0, none⟩) b w2).mono ?_
    rintro e w3 ⟨rfl, hw3⟩
    have hq1 := (Below.refl w2.heap.size w2).alloc (Nat.le_refl _) (.cells #[.pointer (some ⟨gb, 0, none⟩)] 26)
    have hq2 := (Below.refl (w2.alloc (.cells #[.pointer (some ⟨gb, 0, none⟩)] 26)).heap.size (w2.alloc (.cells #[.pointer (some ⟨gb, 0, none⟩)] 26))).alloc (Nat.le_refl _) (.cells (idB b) 24)
    have hq := hq1.trans (hq2.mono hq1.size)
    have hs : (w2.alloc (.cells #[.pointer (some ⟨gb, 0, none⟩)] 26)).heap.size = w2.heap.size + 1 := by simp
    have c1 := fits_new (w2.alloc (.cells #[.pointer (some ⟨gb, 0, none⟩)] 26)) (idB b) 24 32 (by rw [idB_size, HB32.out])
    have c2 := aggAt_new (w2.alloc (.cells #[.pointer (some ⟨gb, 0, none⟩)] 26)) (idB b) 24 32 (by rw [idB_size, HB32.out])
    have hcell : w3.cell? ⟨w2.heap.size, 0, none⟩ = some (.pointer (some ⟨gb, 0, none⟩)) := by
      have h9 : w3.heap[w2.heap.size]? = some (.cells #[.pointer (some ⟨gb, 0, none⟩)] 26 (0, 0)) := by
        rw [hw3]
        exact (hq2.block _ (by simp)).trans (World.alloc_heap_new w2 _)
      rw [Lib.cell_of_heap h9]; rfl
    rw [hs] at c1 c2
    rw [← hw3] at hq c1 c2
    have HB3 := Lib.hid (HB2.out.trans (hq.mono HB2.out.size))
    have hsz3 : w2.heap.size < w3.heap.size := by rw [hw3]; simp; omega
    have HSQ := Lib.hid (back1_any (w2.heap.size + 1) w2.heap.size gb mb G b w3 HLEN.out HWF.out HNB.out ⟨c1, c2⟩ hsz3 hcell (HG.out.below HB3.out))
    have hw23 := HW2.out.trans (hq.mono HW2.out.size)
    have hA3 := (hw23.block b1 (Array.getElem?_eq_some_iff.1 HA1.out).1).trans HA1.out
    have hC3 := (hw23.block b3 (Array.getElem?_eq_some_iff.1 HC3.out).1).trans HC3.out
    have HA3 := Lib.hid hA3
    have HC3' := Lib.hid hC3
    clear hw3 hq1 hq2 hq hs c1 c2 hcell hsz3 d1 d2 hw23 hA3 hC3
    go_wp2_with fail
    refine (wpIn_wide (n := 2)).1 ?_
    refine wp_rangeFuncO rfl enter53 HSQ.out (Below.refl _ _) (fun _ => rfl) (IsI w a b1 b3) (IsX w a b3) (isI_stays w a b1 b3 _ (Array.getElem?_eq_some_iff.1 HA3.out).1 (Array.getElem?_eq_some_iff.1 HC3'.out).1 HB3.out.size) (isX_stays w a b3 _ (Array.getElem?_eq_some_iff.1 HC3'.out).1 HB3.out.size) (fun _ => False)
      ⟨by simp [valsI], HA3.out, HC3'.out, fun _ h => h, HB3.out⟩ (fun pre U W h k hk => absurd hk (h.2.2.2.1 k)) (fun c pre U W h k hk => absurd hk (h.2.2.2.1 k))
      (fun x a' WX bx => a' = { tmps := #[.pointer (some ⟨gb, 0, none⟩), .agg (idB a), .agg (idB b), undef, .pointer (some ⟨b1, 0, none⟩), .pointer (some ⟨b2, 0, none⟩), .pointer (some ⟨b3, 0, none⟩), .pointer (some ⟨bx, 0, none⟩), .pointer (some ⟨gb, 0, none⟩), .agg (idB a), .agg (idB b), .slice (some ⟨W.heap.size, 0, none⟩) 2 2, .int .i64 0, .bool false, .pointer (some ⟨gb, 0, none⟩), .agg (idB b), .func (.func 53) #[] #[.pointer (some ⟨w2.heap.size + 1, 0, none⟩), .pointer (some ⟨w2.heap.size, 0, none⟩)], .agg (idB x.1), undef, undef, undef], defers := [] } ∧ WX.heap[bx]? = some (.cells (idB x.1) 24 (0, 0)))
      (fun x a' W b W' h e => ⟨h.1, e.trans h.2⟩) ?assign ?body ?done ?stop (fun k hk => hk.elim)
    case assign =>
      rintro l ⟨x, hx⟩ WX K hK
      have HK := Lib.hid hK
      have hx32 := idOk_agg x hx
      clear hK
      simp only [encI]
      gi_wp2
      exact HK.out _ _ WX.heap.size (.of_below ((Below.refl WX.heap.size WX).alloc (Nat.le_refl _) _) _) (Nat.le_refl _) (by simp) ⟨rfl, World.alloc_heap_new WX _⟩
    case body =>
      rintro l pre ⟨x, hx⟩ WX U bx a' ⟨h1, h2, h3, h4, h5⟩ hlen ⟨rfl, hbx⟩ hub hbl hbw
      obtain ⟨e1, e2⟩ := fits_blk hx hbx
      obtain ⟨e3, e4⟩ := fits_blk HA.out h2
      have hc3 : WX.cell? ⟨b3, 0, none⟩ = some (.bool false) := by rw [Lib.cell_of_heap h3]; rfl
      have hf3 : WX.frozen? ⟨b3, 0, none⟩ = false := Lib.frozen_of_heap h3 0
      have H1 := Lib.hid h1
      have H2 := Lib.hid h2
      have H3 := Lib.hid h3
      have H4 := Lib.hid h4
      have H5 := Lib.hid h5
      have HX := Lib.hid hx
      clear h1 h2 h3 h4 h5 hbx hlen
      by_cases hxa : x = a
      · subst hxa
        gi_wp2
        refine ⟨⟨rfl, rfl, rfl, by rw [size_setCell]; exact Nat.le_refl _, fun k hk hn => Below.heap_setCell WX ⟨b3, 0, none⟩ _ k (fun e => hn (.inr ?_))⟩, U, ⟨rfl, by rw [valsI_snoc]; simp, heap_box _ H3.out, H4.out, H5.out.setCell (p := ⟨b3, 0, none⟩) HLT3.out.2.2 _⟩, fun k hk => .inl hk⟩
        rw [e]; exact (Array.getElem?_eq_some_iff.1 HC3'.out).1
      · have hne : (x == a) = false := beq_eq_false_iff_ne.2 hxa
        have HXA := Lib.hid hxa
        clear hxa
        gi_wp2
        refine ⟨Turns.refl _ _, U, ⟨fun y hy => ?_, H2.out, H3.out, H4.out, H5.out⟩, fun k hk => .inl hk⟩
        rw [valsI_snoc] at hy
        rcases List.mem_append.1 hy with hy | hy
        · exact H1.out y hy
        · rw [List.mem_singleton.1 hy]; exact HXA.out
    case done =>
      rintro D xs U WX hD hUD ⟨hnd, hmem⟩ ⟨h1, h2, h3, h4, h5⟩ hK
      have HE := Lib.hid (show isR G a b = false by
        unfold isR
        rw [HNB.out, Bool.true_and, decide_eq_false]
        intro h
        exact h1 a ((hmem a).2 ((pastL_mem HWF.out HNB.out).1 h)) rfl)
      have hc3 : WX.cell? ⟨b3, 0, none⟩ = some (.bool false) := by rw [Lib.cell_of_heap h3]; rfl
      have hf3 : WX.frozen? ⟨b3, 0, none⟩ = false := Lib.frozen_of_heap h3 0
      have H3 := Lib.hid h3
      have H5 := Lib.hid h5
      have HKD := Lib.hid hK
      clear h1 h2 h3 h4 h5 hK hnd hmem
      go_wp2
      have hb3D : b3 ≠ D := by have := (Array.getElem?_eq_some_iff.1 HC3'.out).1; omega
      have hK' : (WX.setCell ⟨b3, 0, none⟩ (.bool false)).heap[D]? = some (.deferred (some [])) := (Below.heap_setCell WX ⟨b3, 0, none⟩ _ D (fun e => hb3D e.symm)).trans HKD.out
      refine ⟨by simp, .inl ⟨_, _, rfl, run_takeDeferred hK', ?_⟩⟩
      have hbx : ((WX.setCell ⟨b3, 0, none⟩ (.bool false)).putObj D (.deferred none)).heap[b3]? = some (.cells #[.bool false] 4 (0, 0)) := (World.putObj_heap_other hb3D).trans (heap_box _ H3.out)
      have hc5 : ((WX.setCell ⟨b3, 0, none⟩ (.bool false)).putObj D (.deferred none)).cell? ⟨b3, 0, none⟩ = some (.bool false) := by rw [Lib.cell_of_heap hbx]; rfl
      refine ⟨.bool false, ?_, ?_, ?_⟩
      · simp [results, Try.f14, go_sem, hc5]
      · rw [HE.out]
      · exact (H5.out.setCell (p := ⟨b3, 0, none⟩) HLT3.out.2.2 _).trans ⟨rfl, rfl, rfl, by simp, fun k hk => World.putObj_heap_other (by have := HB3.out.size; omega)⟩
    case stop =>
      rintro D c pre U WX hD hUD hSp ⟨rfl, h1, h3, h4, h5⟩ hK
      have HE := Lib.hid (show isR G a b = true by
        unfold isR
        rw [HNB.out, Bool.true_and]
        exact decide_eq_true ((pastL_mem HWF.out HNB.out).2 (hSp a h1)))
      gi_wp2
      have hb3D : b3 ≠ D := by have := (Array.getElem?_eq_some_iff.1 HC3'.out).1; omega
      refine ⟨by simp, .inl ⟨_, _, rfl, run_takeDeferred hK, ?_⟩⟩
      have hbx : (WX.putObj D (.deferred none)).heap[b3]? = some (.cells #[.bool true] 4 (0, 0)) := (World.putObj_heap_other hb3D).trans h3
      have hc5 : (WX.putObj D (.deferred none)).cell? ⟨b3, 0, none⟩ = some (.bool true) := by rw [Lib.cell_of_heap hbx]; rfl
      refine ⟨.bool true, ?_, ?_, ?_⟩
      · simp [results, Try.f14, go_sem, hc5]
      · rw [HE.out]
      · exact h5.trans ⟨rfl, rfl, rfl, by simp, fun k hk => World.putObj_heap_other (by have := HB3.out.size; omega)⟩
  · rw [show knownE G [a, b] = 12 by unfold knownE; rw [if_neg]; simpa using hk] at HKN
    have HE := Lib.hid (show isR G a b = false by
      unfold isR
      cases hnb : isNode G b with
      | false => rfl
      | true =>
        rw [Bool.true_and, decide_eq_false]
        intro h
        exact hk ⟨pastL_node a h, hnb⟩)
    clear hk
    go_wp2_with fail
    refine HKN.out.mono ?_
    rintro e w2 ⟨rfl, hb2⟩
    have hw2 := HBW1.out.trans (hb2.mono HBW1.out.size)
    have HB2 := Lib.hid (HBW.out.trans (hw2.mono HBW.out.size))
    have hC3 := (hw2.block b3 (Array.getElem?_eq_some_iff.1 HC3.out).1).trans HC3.out
    have HC3' := Lib.hid hC3
    have h1 : w2.cell? ⟨b3, 0, none⟩ = some (.bool false) := by rw [Lib.cell_of_heap hC3]; rfl
    have h2 : w2.frozen? ⟨b3, 0, none⟩ = false := Lib.frozen_of_heap hC3 0
    clear hb2 hw2 a1' a2' c1' c2' hC3
    go_wp2
    have hc5 : (w2.setCell ⟨b3, 0, none⟩ (.bool false)).cell? ⟨b3, 0, none⟩ = some (.bool false) := World.cell?_setCell_same' _ _ _ (by rw [h1]; rfl)
    refine ⟨.bool false, ?_, ?_, ?_⟩
    · simp [results, Try.f14, go_sem, hc5]
    · rw [HE.out]
    · exact HB2.out.setCell (p := ⟨b3, 0, none⟩) HLT3.out.2.2 _
end Go.Proofs.Ytmmmimkikakalaa
