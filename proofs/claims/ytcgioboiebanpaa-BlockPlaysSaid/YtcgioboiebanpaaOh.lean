/- awake. -/
import Derived.Test.YtcgioboiebanpaaOg
namespace Go.Proofs.Ytcgioboiebanpaa
open Go.RowKit Go.Maps
set_option linter.unusedVariables false

def oneId (k : UInt8) : List UInt8 := k :: List.replicate 31 0
theorem oneId_32 (k : UInt8) : (oneId k).length = 32 := by simp [oneId]
set_option maxRecDepth 100000 in
@[go_sem ↓] theorem bld24_3 (a : Act) (dst : Option Tmp) (ty' : TypeId) (pos : String) (after : Array Edge) (guard : Option (Nat × Bool)) (w : World) :
    (execOp a.eval ⟨dst, .build 24 #[(0, .const (.int .u8 3))], ty', pos, after, guard⟩).run Try.prog w = .ok (.value (.agg (idB (oneId 3)))) w := run_exec_build a.eval _ dst ty' pos after guard w (by
      have h : Try.prog.built 24 [(0, .int .u8 3)] = some (idB (oneId 3)) := by kernel_rfl
      have hc : a.eval (.const (.int .u8 3)) = .int .u8 3 := rfl
      simpa [hc] using h)
set_option maxRecDepth 100000 in
@[go_sem ↓] theorem bld24_4 (a : Act) (dst : Option Tmp) (ty' : TypeId) (pos : String) (after : Array Edge) (guard : Option (Nat × Bool)) (w : World) :
    (execOp a.eval ⟨dst, .build 24 #[(0, .const (.int .u8 4))], ty', pos, after, guard⟩).run Try.prog w = .ok (.value (.agg (idB (oneId 4)))) w := run_exec_build a.eval _ dst ty' pos after guard w (by
      have h : Try.prog.built 24 [(0, .int .u8 4)] = some (idB (oneId 4)) := by kernel_rfl
      have hc : a.eval (.const (.int .u8 4)) = .int .u8 4 := rfl
      simpa [hc] using h)
def idIs (x : List UInt8) (v : Value) : Prop := v = .agg (idB x)
@[go_sem] theorem idIs_mk (x : List UInt8) : idIs x (.agg (idB x)) := rfl
set_option maxRecDepth 100000 in
@[go_sem ↓] theorem bld26_1 (a : Act) (y : Operand) (dst : Option Tmp) (ty' : TypeId) (pos : String) (after : Array Edge) (guard : Option (Nat × Bool)) (w : World) (hy : idIs (oneId 3) (a.eval y)) :
    (execOp a.eval ⟨dst, .build 26 #[(0, .const (.int .i64 1)), (1, y)], ty', pos, after, guard⟩).run Try.prog w = .ok (.value (.agg (keyB 1 (oneId 3) 0))) w := run_exec_build a.eval _ dst ty' pos after guard w (by
      have h : Try.prog.built 26 [(0, .int .i64 1), (1, .agg (idB (oneId 3)))] = some (keyB 1 (oneId 3) 0) := by kernel_rfl
      unfold idIs at hy
      have hc : a.eval (.const (.int .i64 1)) = .int .i64 1 := rfl
      simpa [hc, hy] using h)
set_option maxRecDepth 100000 in
@[go_sem ↓] theorem bld26_2 (a : Act) (y : Operand) (dst : Option Tmp) (ty' : TypeId) (pos : String) (after : Array Edge) (guard : Option (Nat × Bool)) (w : World) (hy : idIs (oneId 4) (a.eval y)) :
    (execOp a.eval ⟨dst, .build 26 #[(0, .const (.int .i64 2)), (1, y)], ty', pos, after, guard⟩).run Try.prog w = .ok (.value (.agg (keyB 2 (oneId 4) 0))) w := run_exec_build a.eval _ dst ty' pos after guard w (by
      have h : Try.prog.built 26 [(0, .int .i64 2), (1, .agg (idB (oneId 4)))] = some (keyB 2 (oneId 4) 0) := by kernel_rfl
      unfold idIs at hy
      have hc : a.eval (.const (.int .i64 2)) = .int .i64 2 := rfl
      simpa [hc, hy] using h)
def kOne : KV := (1, oneId 3, 0)
def kTwo : KV := (2, oneId 4, 0)
def kNil : KV := (0, List.replicate 32 0, 0)
def aw1 : List MR := [(kOne, [97, 98], false)]
def aw2 : List MR := [(kOne, [97], false), (kTwo, [120], false), ((1, oneId 3, 1), [98], false)]
def aw3 : List MR := [(kOne, [97], true), (kTwo, [120], false), ((1, oneId 3, 1), [98], true)]
set_option maxRecDepth 100000 in
theorem aw_facts : insE [] kOne kNil true [97, 98] = 0 ∧ insL [] kOne kNil true [97, 98] = aw1 ∧ insE aw1 kTwo kOne false [120] = 0 ∧ insL aw1 kTwo kOne false [120] = aw2 ∧ docText aw2 = [97, 120, 98] ∧ (piecesM aw2).length = 3 ∧
    delE aw2 kOne 2 = 0 ∧ delR aw2 kOne 2 = aw3 ∧ docText aw3 = [120] ∧ liveM aw3 = 1 ∧ tot aw3 = 3 := by
  refine ⟨?_, ?_, ?_, ?_, ?_, ?_, ?_, ?_, ?_, ?_, ?_⟩ <;> decide +kernel
theorem Step.above {d B : Nat} {v v' : Value} {w w' : World} (h : Step d v v' w w') (hB : B ≤ w.heap.size) (hv : ∀ g, v.ownBlock = some g → B ≤ g) : ∀ g, v'.ownBlock = some g → B ≤ g := by
  intro g hg
  rcases h.own with e | ⟨k, e, hk⟩
  · exact hv g (e ▸ hg)
  · rw [e] at hg; cases hg; omega
theorem Step.below {d B : Nat} {v v' : Value} {w w' : World} (h : Step d v v' w w') (hB : B ≤ w.heap.size) (hd : B ≤ d) (hv : ∀ g, v.ownBlock = some g → B ≤ g) : Below B w w' :=
  ⟨h.os, h.tape, h.output, h.size, fun k hk => h.block k (by omega) (by omega) (fun e => by have := hv k e; omega)⟩
theorem Step.keeps {d B b : Nat} {v v' : Value} {w w' : World} {o : Obj} (h : Step d v v' w w') (hb : w.heap[b]? = some o) (hd : b ≠ d) (hv : ∀ g, v.ownBlock = some g → B ≤ g) (hB : b < B) : w'.heap[b]? = some o :=
  (h.block b (Array.getElem?_eq_some_iff.1 hb).1 hd (fun e => by have := hv b e; omega)).trans hb
set_option maxHeartbeats 4000000 in
set_option maxRecDepth 100000 in
theorem awake_any (w : World) : Calls Try.prog 13 #[] w fun e w' => e = .returned (.bool true) ∧ Below w.heap.size w w' := by
  obtain ⟨q1, q2, q3, q4, q5, q6, q7, q8, q9, q10, q11⟩ := aw_facts
  have HC1 := Lib.hid (fun (d : Nat) (v : Value) (w : World) (h : DocP w d v []) => insert_P d v [] kOne kNil true ⟨#[97, 98]⟩ w rfl rfl (by decide) (by decide) h)
  have HC2 := Lib.hid (fun (d : Nat) (v : Value) (w : World) (h : DocP w d v aw1) => insert_P d v aw1 kTwo kOne false ⟨#[120]⟩ w rfl rfl (by decide) (by decide) h)
  have HC3 := Lib.hid (fun (d : Nat) (v : Value) (w : World) (h : DocP w d v aw2) => text_P d v aw2 w (by decide) h)
  have HC4 := Lib.hid (fun (d : Nat) (v : Value) (w : World) (h : DocP w d v aw2) => pieces_P d v aw2 w (by decide) h)
  have HC5 := Lib.hid (fun (d : Nat) (v : Value) (w : World) (h : DocP w d v aw2) => delete_P d v aw2 kOne 2 w rfl (by decide) h)
  have HC6 := Lib.hid (fun (d : Nat) (v : Value) (w : World) (h : DocP w d v aw3) => text_P d v aw3 w (by decide) h)
  have HC7 := Lib.hid (fun (d : Nat) (v : Value) (w : World) (h : DocP w d v aw3) => len_P d v aw3 w h)
  have HC8 := Lib.hid (fun (d : Nat) (v : Value) (w : World) (h : DocP w d v aw3) => size_P d v aw3 w h)
  rw [show (⟨#[97, 98]⟩ : ByteArray).data.toList = [97, 98] from rfl, q1, q2] at HC1
  rw [show (⟨#[120]⟩ : ByteArray).data.toList = [120] from rfl, q3, q4] at HC2
  rw [q5, show strB [97, 120, 98] = ⟨#[97, 120, 98]⟩ from rfl] at HC3
  rw [q7, q8] at HC5
  rw [q9, show strB [120] = ⟨#[120]⟩ from rfl] at HC6
  rw [q10] at HC7
  rw [q11] at HC8
  have HQ6 := Lib.hid q6
  simp only [kOne, kTwo, kNil] at HC1 HC2 HC5
  rw [show keyB 0 (List.replicate 32 0) 0 = key0 from rfl] at HC1
  clear q1 q2 q3 q4 q5 q6 q7 q8 q9 q10 q11
  go_enter Try.func13, Try.ntmps13
  go_wp2_with fail
  refine (new_P w).mono ?_
  rintro e w1 ⟨rfl, hd1, hb1⟩
  obtain ⟨d, hd⟩ : ∃ d, d = w.heap.size := ⟨_, rfl⟩
  have HD := Lib.hid hd
  rw [← hd] at hd1 ⊢
  have HD1 := Lib.hid hd1
  have HB1 := Lib.hid hb1
  clear hd1 hb1 hd
  have o3 := oneId_32 3
  have o4 := oneId_32 4
  go_wp2_with (refine wpList_store_blk 26 34 (by kernel_rfl) rfl _ _ rfl w1.heap.size (keyB 1 (oneId 3) 0) (by rw [keyB_size, o3]) (key_one _ _ _) rfl rfl _ (two_new (w := w1) rfl).2.1 (by rfl) ?_)
  intro w2 s1 s2 s3
  generalize hW : World.alloc (World.alloc w1 _) _ = W at s2 s3
  obtain ⟨h1, h2, h3⟩ := two_new hW
  have t3 := (s2 (w1.heap.size + 1) (by omega)).trans h3
  obtain ⟨b2, hb2⟩ : ∃ b, b = w1.heap.size := ⟨_, rfl⟩
  obtain ⟨b3, hb3⟩ : ∃ b, b = w1.heap.size + 1 := ⟨_, rfl⟩
  rw [← hb2] at s1
  rw [← hb3] at t3
  rw [← hb3, ← hb2]
  have HS1 := Lib.hid s1
  have HT3 := Lib.hid t3
  have HB23 := Lib.hid (show b2 = w1.heap.size ∧ b3 = w1.heap.size + 1 from ⟨hb2, hb3⟩)
  have HB2 := Lib.hid (show Below w1.heap.size w1 w2 from h1.trans ⟨s3.os, s3.tape, s3.output, s3.size, fun k hk => s2 k (by omega)⟩)
  clear hW h1 h2 h3 s1 s2 s3 t3 hb2 hb3
  go_wp2_with (refine wpList_store_blk 26 34 (by kernel_rfl) rfl _ _ rfl b3 (keyB 2 (oneId 4) 0) (by rw [keyB_size, o4]) (key_one _ _ _) rfl rfl _ HT3.out (by rfl) ?_)
  intro w3 s1 s2 s3
  have HS3 := Lib.hid s1
  have HS2 := Lib.hid ((s2 b2 (by have := HB23.out; omega)).trans HS1.out)
  have HB3 := Lib.hid (show Below w1.heap.size w1 w3 from HB2.out.trans ⟨s3.os, s3.tape, s3.output, s3.size, fun k hk => s2 k (by have := HB23.out; omega)⟩)
  clear s1 s2 s3
  have HK3 := Lib.hid (show (keyB 1 (oneId 3) 0).size = 34 by rw [keyB_size, o3])
  have HK4 := Lib.hid (show (keyB 2 (oneId 4) 0).size = 34 by rw [keyB_size, o4])
  have HDN := Lib.hid (show d ≠ b2 ∧ d ≠ b3 ∧ b2 ≠ b3 by have := HD1.out.lt; have := HB23.out; omega)
  have HD3 := Lib.hid (HD1.out.below HB3.out)
  have f1 := (blk_ld HS2.out HK3.out).1
  have f2 := (blk_ld HS2.out HK3.out).2
  go_wp2_with fail
  refine (HC1.out d _ w3 HD3.out).mono ?_
  rintro e w4 ⟨rfl, v4, hd4, hs4⟩
  have HSZ3 := Lib.hid (show b2 < w3.heap.size ∧ b3 < w3.heap.size ∧ w.heap.size ≤ w3.heap.size from ⟨(Array.getElem?_eq_some_iff.1 HS2.out).1, (Array.getElem?_eq_some_iff.1 HS3.out).1, Nat.le_trans HB1.out.size HB3.out.size⟩)
  have hv4 := hs4.above (B := w3.heap.size) (Nat.le_refl _) (fun g hg => by cases hg)
  have HV4 := Lib.hid hv4
  have HD4 := Lib.hid hd4
  have HF2 := Lib.hid ((hs4.block b2 HSZ3.out.1 (fun e => HDN.out.1 e.symm) (fun e => by cases e)).trans HS2.out)
  have HF3 := Lib.hid ((hs4.block b3 HSZ3.out.2.1 (fun e => HDN.out.2.1 e.symm) (fun e => by cases e)).trans HS3.out)
  have HB4 := Lib.hid ((HB1.out.trans (HB3.out.mono HB1.out.size)).trans (hs4.below (B := w.heap.size) HSZ3.out.2.2 (by have := HD.out; omega) (fun g hg => by cases hg)))
  have HSZ4 := Lib.hid hs4.size
  clear hs4 hd4 hv4 f1 f2
  have f1 := (blk_ld HF2.out HK3.out).1
  have f2 := (blk_ld HF2.out HK3.out).2
  have f3 := (blk_ld HF3.out HK4.out).1
  have f4 := (blk_ld HF3.out HK4.out).2
  go_wp2_with fail
  refine (HC2.out d _ w4 HD4.out).mono ?_
  rintro e w5 ⟨rfl, v5, hd5, hs5⟩
  have HV5 := Lib.hid (hs5.above (B := w3.heap.size) HSZ4.out HV4.out)
  have HD5 := Lib.hid hd5
  have HG2 := Lib.hid (hs5.keeps HF2.out (fun e => HDN.out.1 e.symm) HV4.out HSZ3.out.1)
  have HB5 := Lib.hid (HB4.out.trans (hs5.below (B := w.heap.size) HB4.out.size (by have := HD.out; omega) (fun g hg => by have := HV4.out g hg; have := HSZ3.out; omega)))
  have HSZ5 := Lib.hid (Nat.le_trans HSZ4.out hs5.size)
  clear hs5 hd5 f1 f2 f3 f4
  go_wp2_with fail
  refine (HC3.out d _ w5 HD5.out).mono ?_
  rintro e w6 ⟨rfl, hb6⟩
  have HD6 := Lib.hid (HD5.out.below hb6)
  have HG26 := Lib.hid ((hb6.block b2 (Array.getElem?_eq_some_iff.1 HG2.out).1).trans HG2.out)
  have HB6 := Lib.hid (HB5.out.trans (hb6.mono HB5.out.size))
  have HSZ6 := Lib.hid (Nat.le_trans HSZ5.out hb6.size)
  clear hb6
  go_wp2_with fail
  refine (HC4.out d _ w6 HD6.out).mono ?_
  rintro e w7 ⟨pv, rfl, hpr, hb7⟩
  obtain ⟨pa, pc, rfl, _⟩ := hpr.sl
  rw [HQ6.out]
  have HD7 := Lib.hid (HD6.out.below hb7)
  have hg27 := (hb7.block b2 (Array.getElem?_eq_some_iff.1 HG26.out).1).trans HG26.out
  have HB7 := Lib.hid (HB6.out.trans (hb7.mono HB6.out.size))
  have HSZ7 := Lib.hid (Nat.le_trans HSZ6.out hb7.size)
  have f1 := (blk_ld hg27 HK3.out).1
  have f2 := (blk_ld hg27 HK3.out).2
  clear hb7 hg27 hpr
  go_wp2_with fail
  refine (HC5.out d _ w7 HD7.out).mono ?_
  rintro e w8 ⟨rfl, v8, hd8, hs8⟩
  have HD8 := Lib.hid hd8
  have HB8 := Lib.hid (HB7.out.trans (hs8.below (B := w.heap.size) HB7.out.size (by have := HD.out; omega) (fun g hg => by have := HV5.out g hg; have := HSZ3.out; omega)))
  clear hs8 hd8 f1 f2
  go_wp2_with fail
  refine (HC6.out d _ w8 HD8.out).mono ?_
  rintro e w9 ⟨rfl, hb9⟩
  have HD9 := Lib.hid (HD8.out.below hb9)
  have HB9 := Lib.hid (HB8.out.trans (hb9.mono HB8.out.size))
  clear hb9
  go_wp2_with fail
  refine (HC7.out d _ w9 HD9.out).mono ?_
  rintro e w10 ⟨rfl, hb10⟩
  have HD10 := Lib.hid (HD9.out.below hb10)
  have HB10 := Lib.hid (HB9.out.trans (hb10.mono HB9.out.size))
  clear hb10
  go_wp2_with fail
  refine (HC8.out d _ w10 HD10.out).mono ?_
  rintro e w11 ⟨rfl, hb11⟩
  have HB11 := Lib.hid (HB10.out.trans (hb11.mono HB10.out.size))
  clear hb11
  go_wp2
  go_ret
  exact ⟨rfl, HB11.out⟩
end Go.Proofs.Ytcgioboiebanpaa
