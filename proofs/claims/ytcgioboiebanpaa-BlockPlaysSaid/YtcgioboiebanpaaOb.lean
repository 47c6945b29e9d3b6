/- Copy. -/
import Derived.Test.YtcgioboiebanpaaNz
namespace Go.Proofs.Ytcgioboiebanpaa
open Go.RowKit Go.Maps
set_option linter.unusedVariables false

@[go_sem ↓] theorem load66 (f : Operand → Value) (x : Operand) (dst : Option Tmp) (ty' : TypeId) (pos : String) (after : Array Edge) (guard : Option (Nat × Bool)) (w : World)
    (hp : isPtr (f x) = true) (hf : fits w (addrOf (f x)) 3) :
    (execOp f ⟨dst, .load 66 x, ty', pos, after, guard⟩).run Try.prog w = .ok (.value (.agg (aggAt w (addrOf (f x)) 3))) w :=
  run_exec_load Try.underlying66 rfl (by kernel_rfl) f x dst ty' pos after guard w hp hf
@[go_sem ↓] theorem store66g (f : Operand → Value) (x y : Operand) (dst : Option Tmp) (ty' : TypeId) (pos : String) (after : Array Edge) (guard : Option (Nat × Bool)) (w : World)
    (hp : isPtr (f x) = true) (hf : (addrOf (f x)).off = 0) (hs : (addrOf (f x)).spot = none) (ho : szAt w (addrOf (f x)).block = some 3) (hy : aggN 3 (f y)) :
    (execOp f ⟨dst, .store 66 x y, ty', pos, after, guard⟩).run Try.prog w = .ok .skip (w.setRow (addrOf (f x)).block (aggOf (f y))) := run_store_blk 66 3 (by kernel_rfl) f x y dst ty' pos after guard w hp hf hs ho hy
@[go_sem] theorem aggN_doc (a : Option Addr) (n c : Nat) (s l : Int) : aggN 3 (.agg #[.slice a n c, .int .i64 s, .int .i64 l]) := ⟨_, rfl, rfl, by simp [Value.oneCell']⟩
set_option maxHeartbeats 2000000 in
set_option maxRecDepth 100000 in
theorem copy_doc (d : Nat) (v : Value) (zs : List ZR) (size live : Int) (w : World) (hz : zs.length ≤ 10000) (h : Doc w d v zs size live) :
    Calls Try.prog 17 #[.pointer (some ⟨d, 0, none⟩)] w fun e w' => ∃ d' v', e = .returned (.pointer (some ⟨d', 0, none⟩)) ∧ Doc w' d' v' zs size live ∧ Apart d v d' v' ∧ w.heap.size ≤ d' ∧ Below w.heap.size w w' := by
  obtain ⟨a, cap, rfl, hin⟩ := h.slice
  obtain ⟨a', cap', he, hc1, hc2, _, hc3⟩ := h.row.sl
  injection he with q1 q2 q3
  subst q1 q3
  obtain ⟨f1, f2⟩ := blk_ld h.cells (show _ = 3 from rfl)
  obtain ⟨W, hW⟩ : ∃ W, W = w.alloc (.cells #[.slice a (zs.map (·.1)).length cap, .int .i64 size, .int .i64 live] 66) := ⟨_, rfl⟩
  have hbW : Below w.heap.size w W := by rw [hW]; exact (Below.refl _ _).alloc (Nat.le_refl _) _
  have hH : W.heap[w.heap.size]? = some (.cells #[.slice a (zs.map (·.1)).length cap, .int .i64 size, .int .i64 live] 66 (0, 0)) := by rw [hW]; exact World.alloc_heap_new w _
  have hS : W.heap.size = w.heap.size + 1 := by rw [hW]; simp
  have HD := Lib.hid h
  have HDW := Lib.hid (h.below hbW)
  have HIN := Lib.hid (hin.below hbW)
  have HC := Lib.hid hc3
  have HBW := Lib.hid hbW
  have HS := Lib.hid hS
  have HZ := Lib.hid hz
  have c0 : W.cell? ⟨d, 0, none⟩ = some (.slice a (zs.map (·.1)).length cap) := by rw [Lib.cell_of_heap HDW.out.cells]; rfl
  obtain ⟨L, hL⟩ : ∃ L, L = (zs.map (·.1)).length := ⟨_, rfl⟩
  have HL := Lib.hid hL
  obtain ⟨b3, hb3⟩ : ∃ b, b = w.heap.size := ⟨_, rfl⟩
  have HB3 := Lib.hid hb3
  rw [← hb3] at hH
  have HH := Lib.hid hH
  rw [← hL] at hW f2 c0
  clear h hin hc1 hc2 hc3 hbW hH hS hz hL
  go_enter Try.func17, Try.ntmps17
  go_upto_region 4 with fail
  rw [← hW, ← hb3]
  clear hW hb3 f1 f2
  go_wp2_with (at_builtin; refine Rec.wpList_app rn64 rfl _ _ rfl W.heap.size (.slice none 0 0) [] (zs.map (·.1)) (zs.map (·.1)) (by simp) rfl Rec.row.nil a cap (by rw [← HL.out]; rfl) HIN.out (fun e => ⟨(HC.out e).1, (HC.out e).2⟩) (by have := HZ.out; simp; omega) (Nat.le_refl _) ?_; intro v1 w1 a1 a2 a3; obtain ⟨p1, k1, hv1, _⟩ := a1.sl; subst hv1; have hh1 := (a2.block b3 (Array.getElem?_eq_some_iff.1 HH.out).1 (by simp [Value.ownBlock])).trans HH.out; have z0 := Lib.frozen_of_heap hh1 0; have z1 : w1.cell? ⟨b3, 0, none⟩ = some (.slice a (zs.map (·.1)).length cap) := by (rw [Lib.cell_of_heap hh1]; rfl))
  have HA1 := Lib.hid a1
  have HA2 := Lib.hid a2
  have HH1 := Lib.hid hh1
  clear a1 a2 a3 hh1
  go_wp2
  go_ret
  have hb12 : Below W.heap.size W w1 := ⟨HA2.out.os, HA2.out.tape, HA2.out.output, HA2.out.size, fun k hk => HA2.out.block k hk (by simp [Value.ownBlock])⟩
  have hbw := HBW.out.trans (hb12.mono HBW.out.size)
  have hset : ∀ u, Below w.heap.size w1 (w1.setCell ⟨b3, 0, none⟩ u) := fun u => ⟨rfl, rfl, rfl, by simp, fun k hk => heap_setCell_ne w1 b3 0 k u (by have := HB3.out; omega)⟩
  have hall := hbw.trans (hset (.slice p1 (zs.map (·.1)).length k1))
  simp only [List.length_map] at hall HA1 HH1 ⊢
  refine ⟨b3, rfl, .slice p1 zs.length k1, ⟨heap_setCell_at HH1.out _, ?_, fun z hz => (HD.out.tells z hz).keep (.of_below hall)⟩, ⟨?_, fun g hg hg2 => ?_⟩, by have := HB3.out; omega, hall⟩
  · refine row_keep (HA1.out.base (by have := HS.out; have := HB3.out; omega)) (fun g hg => heap_setCell_ne w1 b3 0 g _ (fun e => ?_))
    have := (row_own HA1.out hg).1
    have := HS.out; have := HB3.out; omega
  · have := HD.out.lt; have := HB3.out; omega
  · obtain ⟨_, cur, hc⟩ := row_own HD.out.row (g := g) (by rw [List.length_map]; exact hg)
    have h1 := (Array.getElem?_eq_some_iff.1 hc).1
    have h2 := (row_own HA1.out hg2).1
    have := HS.out; omega
end Go.Proofs.Ytcgioboiebanpaa

namespace Go.Proofs.Ytcgioboiebanpaa
open Go.RowKit Go.Maps
set_option linter.unusedVariables false
attribute [local go_sem] Oper.semAt_some
attribute [local go_sem ↓] semAt_run

def key0 : Array Value := keyB 0 (List.replicate 32 0) 0
@[go_sem ↓] theorem bld26_0 (f : Operand → Value) (dst : Option Tmp) (ty' : TypeId) (pos : String) (after : Array Edge) (guard : Option (Nat × Bool)) (w : World) :
    (execOp f ⟨dst, .build 26 #[], ty', pos, after, guard⟩).run Try.prog w = .ok (.value (.agg key0)) w := run_exec_build f #[] dst ty' pos after guard w (by
      have h : Try.prog.built 26 [] = some key0 := by kernel_rfl
      simpa using h)
@[go_sem] theorem aggN_key0 : aggN 34 (.agg key0) := aggN_key _ _ _ rfl
/-- What At says of a live run. -/
def atB (p : Nat × ZR) (place : Int) : Bool := decide ((p.1 : Int) ≤ place) && decide (wrap64 (place - p.1) < p.2.2.2.1.length)
def atK (p : Nat × ZR) (place : Int) : KV := (p.2.2.1.1, p.2.2.1.2.1, wrap64 (p.2.2.1.2.2 + wrap64 (place - p.1)))
def atZ (zs : List ZR) (place : Int) : KV × Int := match (livesZ 0 zs).find? (fun p => atB p place) with
  | some p => (atK p place, 0)
  | none => ((0, List.replicate 32 0, 0), 4)
theorem three_new {w W : World} {o1 o2 o3 : Obj} (hW : ((w.alloc o1).alloc o2).alloc o3 = W) : Below w.heap.size w W ∧ W.heap[w.heap.size]? = some o1 ∧ W.heap[w.heap.size + 1]? = some o2 ∧ W.heap[w.heap.size + 2]? = some o3 ∧ W.heap.size = w.heap.size + 3 := by
  obtain ⟨h1, h2, h3⟩ := two_new (w := w) (o1 := o1) (o2 := o2) rfl
  have hb : Below ((w.alloc o1).alloc o2).heap.size ((w.alloc o1).alloc o2) W := by rw [← hW]; exact (Below.refl _ _).alloc (Nat.le_refl _) _
  have hs : ((w.alloc o1).alloc o2).heap.size = w.heap.size + 2 := by simp
  refine ⟨h1.trans (hb.mono h1.size), (hb.block _ (by omega)).trans h2, (hb.block _ (by omega)).trans h3, ?_, by rw [← hW]; simp⟩
  have := World.alloc_heap_new ((w.alloc o1).alloc o2) o3
  rw [hs, hW] at this
  exact this
set_option maxRecDepth 100000 in
theorem results_at (tmps : Array Value) (w : World) (b4 b5 : Nat) (k : KV) (e : Int) (hk : k.2.1.length = 32) (h4 : tmps.getD 4 undef = .pointer (some ⟨b4, 0, none⟩)) (h5 : tmps.getD 5 undef = .pointer (some ⟨b5, 0, none⟩))
    (hb4 : w.heap[b4]? = some (.cells (keyB k.1 k.2.1 k.2.2) 26 (0, 0))) (hb5 : w.heap[b5]? = some (.cells #[.int .i64 e] 33 (0, 0))) :
    (results Try.f21 tmps).run Try.prog w = .ok (.tuple #[.agg (keyB k.1 k.2.1 k.2.2), .int .i64 e]) w := by
  have hcs : (Try.prog.info? 26).map (·.size) = some (keyB k.1 k.2.1 k.2.2).size := by
    rw [keyB_size, hk]; kernel_rfl
  have hr := run_loadVar_row (P := Try.prog) w b4 26 26 (keyB k.1 k.2.1 k.2.2) (0, 0) _ hb4 Try.underlying26 rfl hcs
  have hc5 : w.cell? ⟨b5, 0, none⟩ = some (.int .i64 e) := by rw [Lib.cell_of_heap hb5]; rfl
  have h4' : tmps[4]?.getD undef = .pointer (some ⟨b4, 0, none⟩) := by simpa using h4
  have h5' : tmps[5]?.getD undef = .pointer (some ⟨b5, 0, none⟩) := by simpa using h5
  have hr5 : (loadVar 33 ⟨b5, 0, none⟩).run Try.prog w = .ok (.int .i64 e) w := by simp [go_sem, hc5]
  simp [results, h4', h5', asAddr, hr, hr5]
set_option maxHeartbeats 2000000 in
set_option maxRecDepth 100000 in
theorem at_nil (place : Int) (w : World) : Calls Try.prog 21 #[.pointer none, .int .i64 place] w fun e w' => e = .returned (.tuple #[.agg key0, .int .i64 1]) ∧ Below w.heap.size w w' := by
  go_enter Try.func21, Try.ntmps21
  go_upto_region 2 with fail
  generalize hW : ((w.alloc _).alloc _).alloc _ = W
  obtain ⟨q1, h1, h2, h3, hs⟩ := three_new hW
  obtain ⟨b4, hb4⟩ : ∃ b, b = w.heap.size + 1 := ⟨_, rfl⟩
  obtain ⟨b5, hb5⟩ : ∃ b, b = w.heap.size + 1 + 1 := ⟨_, rfl⟩
  rw [show w.heap.size + 2 = w.heap.size + 1 + 1 by omega, ← hb5] at h3
  rw [← hb4] at h2
  rw [← hb5, ← hb4]
  have HQ := Lib.hid q1
  have H2 := Lib.hid h2
  have H3 := Lib.hid h3
  have HB := Lib.hid (show w.heap.size ≤ b4 ∧ w.heap.size ≤ b5 ∧ b5 ≠ b4 by omega)
  clear hW hb4 hb5 q1 h1 h2 h3 hs
  go_wp2_with (refine wpList_store_blk 26 34 (by kernel_rfl) rfl _ _ rfl b4 key0 (by rfl) (key_one _ _ _) rfl rfl _ H2.out (by rfl) ?_)
  intro w2 s1 s2 s3
  have hh5 := (s2 b5 HB.out.2.2).trans H3.out
  have z0 := Lib.frozen_of_heap hh5 0
  have z1 : w2.cell? ⟨b5, 0, none⟩ = some (.int .i64 0) := by rw [Lib.cell_of_heap hh5]; rfl
  have HS1 := Lib.hid s1
  have HH5 := Lib.hid hh5
  have HB2 := Lib.hid (HQ.out.trans ⟨s3.os, s3.tape, s3.output, s3.size, fun j hj => s2 j (by have := HB.out; omega)⟩)
  clear s1 s2 s3 hh5
  go_wp2
  refine ⟨rfl, _, results_at _ _ b4 b5 (0, List.replicate 32 0, 0) 1 rfl rfl rfl ((heap_setCell_ne w2 b5 0 b4 _ (fun e => HB.out.2.2 e.symm)).trans HS1.out) (heap_setCell_at HH5.out _), rfl, ?_⟩
  exact HB2.out.trans ⟨rfl, rfl, rfl, by simp, fun j hj => heap_setCell_ne w2 b5 0 j _ (by have := HB.out; omega)⟩
/-- Between two rounds: none that came was it. -/
def AtI (w : World) (bp b4 b5 : Nat) (zs : List ZR) (place : Int) (xs : List (LV zs)) (U : Nat → Prop) (W : World) : Prop :=
  (∀ p ∈ valsL xs, atB p place = false) ∧ W.heap[bp]? = some (.cells #[.int .i64 place] 3 (0, 0)) ∧ W.heap[b4]? = some (.cells key0 26 (0, 0)) ∧ W.heap[b5]? = some (.cells #[.int .i64 0] 33 (0, 0)) ∧ (∀ k, ¬ U k) ∧ Below w.heap.size w W
/-- A round has left: the last one was it. -/
def AtX (w : World) (b4 b5 : Nat) (zs : List ZR) (place : Int) (c : Code) (xs : List (LV zs)) (U : Nat → Prop) (W : World) : Prop :=
  c = .ret ∧ (∃ pre p, valsL xs = pre ++ [p] ∧ (∀ q ∈ pre, atB q place = false) ∧ atB p place = true ∧ W.heap[b4]? = some (.cells (keyB (atK p place).1 (atK p place).2.1 (atK p place).2.2) 26 (0, 0)) ∧ (atK p place).2.1.length = 32) ∧
    W.heap[b5]? = some (.cells #[.int .i64 0] 33 (0, 0)) ∧ (∀ k, ¬ U k) ∧ Below w.heap.size w W
theorem atI_stays (w : World) (bp b4 b5 : Nat) (zs : List ZR) (place : Int) (B : Nat) (h0 : bp < B) (h1 : b4 < B) (h2 : b5 < B) (hB : w.heap.size ≤ B) : Stays B (AtI w bp b4 b5 zs place) := by
  intro pre U W W' ⟨h, e0, e1, e3, hu, hb⟩ ht
  have hk : ∀ k o, k < B → W.heap[k]? = some o → W'.heap[k]? = some o := fun k o hk ho => (ht.block _ (Array.getElem?_eq_some_iff.1 ho).1 (fun h => by have : B ≤ k := h.1; omega)).trans ho
  exact ⟨h, hk _ _ h0 e0, hk _ _ h1 e1, hk _ _ h2 e3, hu, hb.trans ⟨ht.os, ht.tape, ht.output, ht.size, fun k hk => ht.block k (by have := hb.size; omega) (fun h => by have : B ≤ k := h.1; omega)⟩⟩
theorem atX_stays (w : World) (b4 b5 : Nat) (zs : List ZR) (place : Int) (B : Nat) (h1 : b4 < B) (h2 : b5 < B) (hB : w.heap.size ≤ B) (c : Code) : Stays B (AtX w b4 b5 zs place c) := by
  intro pre U W W' ⟨h, ⟨l, p, q1, q2, q3, q4, q5⟩, e3, hu, hb⟩ ht
  have hk : ∀ k o, k < B → W.heap[k]? = some o → W'.heap[k]? = some o := fun k o hk ho => (ht.block _ (Array.getElem?_eq_some_iff.1 ho).1 (fun h => by have : B ≤ k := h.1; omega)).trans ho
  exact ⟨h, ⟨l, p, q1, q2, q3, hk _ _ h1 q4, q5⟩, hk _ _ h2 e3, hu, hb.trans ⟨ht.os, ht.tape, ht.output, ht.size, fun k hk => ht.block k (by have := hb.size; omega) (fun h => by have : B ≤ k := h.1; omega)⟩⟩
theorem find_hit {l pre rest : List (Nat × ZR)} {p : Nat × ZR} {place : Int} (h : l = pre ++ p :: rest) (h1 : ∀ q ∈ pre, atB q place = false) (h2 : atB p place = true) : l.find? (fun p => atB p place) = some p := by
  subst h
  rw [List.find?_append]
  have h3 : pre.find? (fun p => atB p place) = none := by
    rw [List.find?_eq_none]; intro q hq; rw [h1 q hq]; simp
  rw [h3, List.find?_cons]
  simp [h2]
theorem livesZ_take : ∀ (zs : List ZR) (n j : Nat), ∃ rest, livesZ n zs = livesZ n (zs.take j) ++ rest
  | [], n, j => ⟨[], by simp [livesZ]⟩
  | z :: zs, n, 0 => ⟨livesZ n (z :: zs), by simp [livesZ]⟩
  | z :: zs, n, j + 1 => by
    simp only [List.take_succ_cons, livesZ]
    split
    · exact livesZ_take zs n j
    · obtain ⟨rest, h⟩ := livesZ_take zs (n + z.2.2.1.length) j
      exact ⟨rest, by rw [h]; rfl⟩
set_option maxHeartbeats 4000000 in
set_option maxRecDepth 100000 in
theorem at_doc (d : Nat) (v : Value) (zs : List ZR) (size live place : Int) (w : World) (htot : tot (zs.map (·.2)) ≤ 10000) (hz : zs.length ≤ 10000) (h : Doc w d v zs size live) :
    Calls Try.prog 21 #[.pointer (some ⟨d, 0, none⟩), .int .i64 place] w fun e w' => e = .returned (.tuple #[.agg (keyB (atZ zs place).1.1 (atZ zs place).1.2.1 (atZ zs place).1.2.2), .int .i64 (atZ zs place).2]) ∧ Below w.heap.size w w' := by
  have HD := Lib.hid h
  have HTOT := Lib.hid htot
  have HZ := Lib.hid hz
  clear h htot hz
  refine (callsIn_wide (n := 2)).1 ?_
  refine callsIn_of_wp_marks Try.func21 rfl trivial ?_ rfl
  simp only [Try.ntmps21, List.size_toArray, List.length_cons, List.length_nil, Nat.reduceAdd, Nat.reduceSub, Array.replicate_succ, Array.replicate_zero, List.push_toArray, List.append_toArray, List.nil_append, List.cons_append]
  refine (wpIn_wide (n := 2)).2 ?_
  go_upto_region 3 with fail
  generalize hW : ((w.alloc _).alloc _).alloc _ = W
  obtain ⟨q1, h1, h2, h3, hs⟩ := three_new hW
  obtain ⟨bp, hbp⟩ : ∃ b, b = w.heap.size := ⟨_, rfl⟩
  obtain ⟨b4, hb4⟩ : ∃ b, b = w.heap.size + 1 := ⟨_, rfl⟩
  obtain ⟨b5, hb5⟩ : ∃ b, b = w.heap.size + 1 + 1 := ⟨_, rfl⟩
  rw [show w.heap.size + 2 = w.heap.size + 1 + 1 by omega, ← hb5] at h3
  rw [← hb4] at h2
  rw [← hbp] at h1
  rw [← hb5, ← hb4, ← hbp]
  have HQ := Lib.hid q1
  have H1 := Lib.hid h1
  have H2 := Lib.hid (show W.heap[b4]? = some (.cells key0 26 (0, 0)) from h2)
  have H3 := Lib.hid h3
  have HB := Lib.hid (show w.heap.size ≤ bp ∧ w.heap.size ≤ b4 ∧ w.heap.size ≤ b5 ∧ b5 ≠ b4 ∧ bp < W.heap.size ∧ b4 < W.heap.size ∧ b5 < W.heap.size by omega)
  clear hW hbp hb4 hb5 q1 h1 h2 h3 hs
  go_wp2_with fail
  refine (lives_any (some ⟨d, 0, none⟩) W).mono ?_
  rintro e w1 ⟨rfl, hw1⟩
  have hbw1 : Below W.heap.size W w1 := by rw [hw1]; exact (Below.refl _ _).alloc (Nat.le_refl _) _
  have hcell : w1.cell? ⟨W.heap.size, 0, none⟩ = some (.pointer (some ⟨d, 0, none⟩)) := by
    rw [hw1, Lib.cell_of_heap (World.alloc_heap_new W _)]; rfl
  have hsz1 : W.heap.size < w1.heap.size := by rw [hw1]; simp
  have HB1 := Lib.hid (HQ.out.trans (hbw1.mono HQ.out.size))
  have HDW := Lib.hid ((HD.out.below HQ.out).below hbw1)
  have HSQ := Lib.hid (lives1_any W.heap.size d v zs size live w1 hsz1 hcell HZ.out (by have := liveN_tot zs; have := HTOT.out; omega) HDW.out (fun _ => False) (fun k hk => hk.elim))
  have HH1 := Lib.hid ((hbw1.block bp HB.out.2.2.2.2.1).trans H1.out)
  have HH2 := Lib.hid ((hbw1.block b4 HB.out.2.2.2.2.2.1).trans H2.out)
  have HH3 := Lib.hid ((hbw1.block b5 HB.out.2.2.2.2.2.2).trans H3.out)
  have HLT := Lib.hid (show bp < w1.heap.size ∧ b4 < w1.heap.size ∧ b5 < w1.heap.size by have := HB.out; omega)
  clear hw1 hbw1 hcell hsz1
  go_wp2_with fail
  refine (wpIn_wide (n := 2)).1 ?_
  refine wp_rangeFuncO rfl enter50 HSQ.out (Below.refl _ _) (fun _ => rfl) (AtI w bp b4 b5 zs place) (AtX w b4 b5 zs place) (atI_stays w bp b4 b5 zs place _ HLT.out.1 HLT.out.2.1 HLT.out.2.2 HB1.out.size) (atX_stays w b4 b5 zs place _ HLT.out.2.1 HLT.out.2.2 HB1.out.size) (fun _ => False)
    ⟨by simp [valsL], HH1.out, HH2.out, HH3.out, fun _ h => h, HB1.out⟩ (fun pre U W h k hk => absurd hk (h.2.2.2.2.1 k)) (fun c pre U W h k hk => absurd hk (h.2.2.2.1 k))
    (fun x a' WX bx => a' = { tmps := #[.pointer (some ⟨d, 0, none⟩), .int .i64 place, undef, .pointer (some ⟨bp, 0, none⟩), .pointer (some ⟨b4, 0, none⟩), .pointer (some ⟨b5, 0, none⟩), .int .i64 (x.1.1 : Int), .pointer (some ⟨bx, 0, none⟩), .pointer (some ⟨d, 0, none⟩), .bool false, undef, .pointer (some ⟨d, 0, none⟩), .func (.func 50) #[] #[.pointer (some ⟨W.heap.size, 0, none⟩)], .int .i64 (x.1.1 : Int), .agg (runB x.1.2.1), undef, undef, undef, undef, undef, undef, undef, undef, undef, undef, undef, undef, undef, undef, undef, undef, undef, undef, undef], defers := [] } ∧ WX.heap[bx]? = some (.cells (runB x.1.2.1) 70 (0, 0)))
    (fun x a' W b W' h e => ⟨h.1, e.trans h.2⟩) ?assign ?body ?done ?stop (fun k hk => hk.elim)
  case assign =>
    rintro l ⟨⟨n, x, r⟩, hx⟩ WX K hK
    have HK := Lib.hid hK
    have hx32 : x.1.2.1.length = 32 := by have ht := HDW.out.tells _ hx; rw [ht.key]; exact ht.k32
    clear hK
    simp only [encL]
    gi_wp2
    exact HK.out _ _ WX.heap.size (.of_below ((Below.refl WX.heap.size WX).alloc (Nat.le_refl _) _) _) (Nat.le_refl _) (by simp) ⟨rfl, World.alloc_heap_new WX _⟩
  case body =>
    rintro l pre ⟨⟨n, x, r⟩, hx⟩ WX U bx a' ⟨h1, h2, h3, h4, h5, h6⟩ hlen ⟨rfl, hbx⟩ hub hbl hbw
    have htl := HDW.out.tells _ hx
    have hx32 : x.1.2.1.length = 32 := by rw [htl.key]; exact htl.k32
    have hra := RunAt.of hx32 (blk_ld hbx (runB_size x hx32)).1 (blk_ld hbx (runB_size x hx32)).2
    have e1 := hra.r
    rw [Nat.zero_add, htl.len] at e1
    obtain ⟨f1, f2⟩ := hra.key hx32
    have e0 : WX.cell? ⟨bp, 0, none⟩ = some (.int .i64 place) := by rw [Lib.cell_of_heap h2]; rfl
    have HKEY := Lib.hid htl.key
    rw [htl.key] at f2 hx32
    have HI1 := Lib.hid h1
    have HI2 := Lib.hid h2
    have HI3 := Lib.hid h3
    have HI4 := Lib.hid h4
    have HI5 := Lib.hid h5
    have HI6 := Lib.hid h6
    have HX32 := Lib.hid hx32
    clear h1 h2 h3 h4 h5 h6 hlen hbx htl hra
    obtain ⟨⟨rt, rc, ri⟩, rr, rd⟩ := r
    simp only at e1 f2 hx32
    have HAB := Lib.hid (show atB (n, x, ((rt, rc, ri), rr, rd)) place = (decide ((n : Int) ≤ place) && decide (wrap64 (place - n) < rr.length)) from rfl)
    have HVS := Lib.hid (show valsL (pre ++ [⟨(n, x, ((rt, rc, ri), rr, rd)), hx⟩]) = valsL pre ++ [(n, x, ((rt, rc, ri), rr, rd))] by simp [valsL])
    by_cases c1 : (n : Int) ≤ place
    case neg =>
      have c1b : decide ((n : Int) ≤ place) = false := decide_eq_false c1
      have HA := Lib.hid (show atB (n, x, ((rt, rc, ri), rr, rd)) place = false by rw [HAB.out, c1b]; rfl)
      clear f1 f2 hx32
      gi_wp2
      refine ⟨Turns.refl _ _, U, ⟨fun p hp => ?_, HI2.out, HI3.out, HI4.out, HI5.out, HI6.out⟩, fun k hk => .inl hk⟩
      rw [HVS.out] at hp
      rcases List.mem_append.1 hp with hp | hp
      · exact HI1.out p hp
      · rw [List.mem_singleton.1 hp]; exact HA.out
    case pos =>
      have c1b : decide ((n : Int) ≤ place) = true := decide_eq_true c1
      obtain ⟨q, hq⟩ : ∃ q, q = wrap64 (place - n) := ⟨_, rfl⟩
      have HQQ := Lib.hid hq
      have iq : IntKind.i64.wrap (place - (n : Int)) = q := by rw [hq]; exact IntWalk.i64_left _
      rw [← hq] at HAB
      clear hq
      by_cases c2 : q < (rr.length : Int)
      case neg =>
        have c2b : decide (q < (rr.length : Int)) = false := decide_eq_false c2
        have HA := Lib.hid (show atB (n, x, ((rt, rc, ri), rr, rd)) place = false by rw [HAB.out, c2b]; simp)
        clear f1 f2 hx32
        gi_wp2
        refine ⟨Turns.refl _ _, U, ⟨fun p hp => ?_, HI2.out, HI3.out, HI4.out, HI5.out, HI6.out⟩, fun k hk => .inl hk⟩
        rw [HVS.out] at hp
        rcases List.mem_append.1 hp with hp | hp
        · exact HI1.out p hp
        · rw [List.mem_singleton.1 hp]; exact HA.out
      case pos =>
        have c2b : decide (q < (rr.length : Int)) = true := decide_eq_true c2
        have HA := Lib.hid (show atB (n, x, ((rt, rc, ri), rr, rd)) place = true by rw [HAB.out, c1b, c2b]; rfl)
        have HAK := Lib.hid (show atK (n, x, ((rt, rc, ri), rr, rd)) place = (rt, rc, wrap64 (ri + q)) by rw [HQQ.out]; rfl)
        gi_wp2_with fail
        refine ⟨trivial, CallsIn.inRound l ((callsIn_wide (n := 1)).2 ((later_any rt rc ri q HX32.out WX).mono ?_))⟩
        rintro e w2 ⟨rfl, hb2⟩
        obtain ⟨I, hI⟩ : ∃ I, I = wrap64 (ri + q) := ⟨_, rfl⟩
        rw [← hI] at HAK ⊢
        have hh4 := (hb2.block b4 (Array.getElem?_eq_some_iff.1 HI3.out).1).trans HI3.out
        have hh5 := (hb2.block b5 (Array.getElem?_eq_some_iff.1 HI4.out).1).trans HI4.out
        have z4 : szAt w2 b4 = some 34 := szAt_of hh4
        have hs4 := setRow_heap w2 b4 key0 (keyB rt rc I) 26 (0, 0) hh4
        have hs5 := (setRow_other w2 b4 b5 (keyB rt rc I) HB.out.2.2.2.1).trans hh5
        have z0 := Lib.frozen_of_heap hs5 0
        have z1 : (w2.setRow b4 (keyB rt rc I)).cell? ⟨b5, 0, none⟩ = some (.int .i64 0) := by rw [Lib.cell_of_heap hs5]; rfl
        have HS4 := Lib.hid hs4
        have HS5 := Lib.hid hs5
        have HB2 := Lib.hid hb2
        have hk34 := aggN_key rt rc I HX32.out
        clear hb2 hh4 hh5 hs4 hs5 f1 f2 hI e0 e1
        gi_wp2
        have hset := heap_setCell_ne (w2.setRow b4 (keyB rt rc I)) b5 0 b4 (.int .i64 0) (fun e => HB.out.2.2.2.1 e.symm)
        have hkp : ∀ k, k < WX.heap.size → k ≠ b4 → k ≠ b5 → ((w2.setRow b4 (keyB rt rc I)).setCell ⟨b5, 0, none⟩ (.int .i64 0)).heap[k]? = WX.heap[k]? := fun k hk h4 h5 =>
          (heap_setCell_ne _ b5 0 k _ h5).trans ((setRow_other w2 b4 k _ h4).trans (HB2.out.block k hk))
        have hsz : WX.heap.size ≤ ((w2.setRow b4 (keyB rt rc I)).setCell ⟨b5, 0, none⟩ (.int .i64 0)).heap.size := by have := HB2.out.size; simpa using this
        refine ⟨⟨HB2.out.os, HB2.out.tape, HB2.out.output, hsz, fun k hk hn => hkp k hk (fun e => hn (.inr ?_)) (fun e => hn (.inr ?_))⟩, U, ⟨rfl, ⟨valsL pre, _, HVS.out, HI1.out, HA.out, ?_, ?_⟩, ?_, HI5.out, ?_⟩, fun k hk => .inl hk⟩
        · rw [e]; exact HLT.out.2.1
        · rw [e]; exact HLT.out.2.2
        · rw [HAK.out]; exact hset.trans HS4.out
        · rw [HAK.out]; exact HX32.out
        · exact heap_setCell_at HS5.out _
        · exact HI6.out.trans ⟨HB2.out.os, HB2.out.tape, HB2.out.output, hsz, fun k hk => hkp k (by have := HI6.out.size; omega) (by have := HB.out; omega) (by have := HB.out; omega)⟩
  case done =>
    rintro D xs U WX hD hUD hS ⟨h1, h2, h3, h4, h5, h6⟩ hK
    have HE := Lib.hid (show atZ zs place = ((0, List.replicate 32 0, 0), 4) by
      unfold atZ
      have hn : (livesZ 0 zs).find? (fun p => atB p place) = none := by
        rw [List.find?_eq_none]; intro q hq; rw [h1 q (by rw [hS]; exact hq)]; simp
      rw [hn])
    have z4 : szAt WX b4 = some 34 := szAt_of h3
    have hs4 := setRow_heap WX b4 key0 key0 26 (0, 0) h3
    have hs5 := (setRow_other WX b4 b5 key0 HB.out.2.2.2.1).trans h4
    have z0 := Lib.frozen_of_heap hs5 0
    have z1 : (WX.setRow b4 key0).cell? ⟨b5, 0, none⟩ = some (.int .i64 0) := by rw [Lib.cell_of_heap hs5]; rfl
    have HS4 := Lib.hid hs4
    have HS5 := Lib.hid hs5
    have HI6 := Lib.hid h6
    have HKD := Lib.hid ((setRow_other WX b4 D key0 (by have := HLT.out; omega)).trans hK)
    clear h1 h2 h3 h4 h5 h6 hs4 hs5 hK hS
    go_wp2
    have hK' : ((WX.setRow b4 key0).setCell ⟨b5, 0, none⟩ (.int .i64 4)).heap[D]? = some (.deferred (some [])) := (heap_setCell_ne _ b5 0 D _ (by have := HLT.out; omega)).trans HKD.out
    refine ⟨by simp, .inl ⟨_, _, rfl, run_takeDeferred hK', ?_⟩⟩
    refine ⟨_, results_at _ _ b4 b5 (0, List.replicate 32 0, 0) 4 rfl rfl rfl ?_ ?_, by rw [HE.out], ?_⟩
    · exact (World.putObj_heap_other (by have := HLT.out; omega)).trans ((heap_setCell_ne _ b5 0 b4 _ (fun e => HB.out.2.2.2.1 e.symm)).trans HS4.out)
    · exact (World.putObj_heap_other (by have := HLT.out; omega)).trans (heap_setCell_at HS5.out _)
    · refine HI6.out.trans ⟨rfl, rfl, rfl, by simp, fun k hk => ?_⟩
      exact (World.putObj_heap_other (by have := HB1.out.size; omega)).trans ((heap_setCell_ne _ b5 0 k _ (by have := HB.out; omega)).trans (setRow_other _ b4 k _ (by have := HB.out; omega)))
  case stop =>
    rintro D c pre U WX hD hUD ⟨j, z, hj, hz, hpre⟩ ⟨rfl, ⟨l, p, q1, q2, q3, q4, q5⟩, e3, hu, hb⟩ hK
    have HE := Lib.hid (show atZ zs place = (atK p place, 0) by
      obtain ⟨rest, hr⟩ := livesZ_take zs 0 (j + 1)
      rw [← hpre, q1] at hr
      have := find_hit (l := livesZ 0 zs) (pre := l) (rest := rest) (p := p) (place := place) (by rw [hr]; simp) q2 q3
      unfold atZ
      rw [this])
    gi_wp2
    refine ⟨by simp, .inl ⟨_, _, rfl, run_takeDeferred hK, ?_⟩⟩
    refine ⟨_, results_at _ _ b4 b5 (atK p place) 0 q5 rfl rfl ?_ ?_, by rw [HE.out], hb.trans ⟨rfl, rfl, rfl, by simp, fun k hk => World.putObj_heap_other (by have := HB1.out.size; omega)⟩⟩
    · exact (World.putObj_heap_other (by have := HLT.out; omega)).trans q4
    · exact (World.putObj_heap_other (by have := HLT.out; omega)).trans e3
end Go.Proofs.Ytcgioboiebanpaa
