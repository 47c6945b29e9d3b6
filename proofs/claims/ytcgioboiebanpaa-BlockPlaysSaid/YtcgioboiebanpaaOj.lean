/- What arguments hold: acts. A document that is not there: its text. -/
import Derived.Test.YtcgioboiebanpaaOh
import Derived.Lib.SmallJoins
namespace Go.Proofs.Ytcgioboiebanpaa
open Go.RowKit Go.Maps Go.WideShapes Go.ChangeShapes Go.Deep
set_option linter.unusedVariables false
attribute [local go_sem] Oper.semAt_some
attribute [local go_sem ↓] semAt_run

def rng (i : Int) : Prop := -9223372036854775808 ≤ i ∧ i ≤ 9223372036854775807
theorem rng_wf {i : Int} (h : (Lit.int .i64 i).wf = true) : rng i := by
  have e1 : IntKind.i64.min = -9223372036854775808 := by decide
  have e2 : IntKind.i64.max = 9223372036854775807 := by decide
  have h' : (decide (IntKind.i64.min ≤ i) && decide (i ≤ IntKind.i64.max)) = true := h
  rw [e1, e2, Bool.and_eq_true] at h'
  exact ⟨of_decide_eq_true h'.1, of_decide_eq_true h'.2⟩
/-- An act whose numbers are such. -/
structure actRng (x : AV) : Prop where
  k32 : x.2.1.2.1.length = 32
  a32 : x.2.2.1.2.1.length = 32
  kind : rng x.1
  kt : rng x.2.1.1
  ki : rng x.2.1.2.2
  atT : rng x.2.2.1.1
  ai : rng x.2.2.1.2.2
  n : rng x.2.2.2.2
def actQ : Rec AV where
  enc x := actL x
  sz := 71
  ok x := actRng x
  pos := by decide
  len x h := actR.len x ⟨h.k32, h.a32⟩
  one x h := actR.one x ⟨h.k32, h.a32⟩
theorem actQ.r {w : World} {a : Option Addr} {xs : List AV} (h : actQ.In w a xs) : actR.In w a xs := ⟨fun x hx => ⟨(h.1 x hx).k32, (h.1 x hx).a32⟩, h.2⟩
set_option maxRecDepth 100000 in
theorem trod_i64N {H : Type} {enc : TypeId × Value → H} {W : World} {fuel : Nat} {l : List Value} {x : DataW H × List MemPlace} (hx : DataW.trod enc Try.prog W 0 (fun _ => true) true fuel 3 l = some x) : ∃ n, l = [.int .i64 n] ∧ (Lit.int .i64 n).wf = true := by
  cases fuel with
  | zero => simp [DataW.trod] at hx
  | succ m =>
    unfold DataW.trod at hx
    rw [Try.underlying3] at hx
    split at hx <;> simp_all
set_option maxRecDepth 100000 in
theorem trod_strN {H : Type} {enc : TypeId × Value → H} {W : World} {fuel : Nat} {l : List Value} {x : DataW H × List MemPlace} (hx : DataW.trod enc Try.prog W 0 (fun _ => true) true fuel 9 l = some x) : ∃ s : ByteArray, l = [.string s] := by
  cases fuel with
  | zero => simp [DataW.trod] at hx
  | succ m =>
    unfold DataW.trod at hx
    rw [Try.underlying9] at hx
    split at hx <;> simp_all
theorem trod_struct5 {H : Type} {enc : TypeId × Value → H} {P : Program} {w : World} {base : Nat} {spare : Nat → Bool} {held : Bool} {t : TypeId} {f0 f1 f2 f3 f4 : Field} {fuel : Nat} {cs : List Value} {x : DataW H × List MemPlace} (ht : P.underlying t = some (.struct #[f0, f1, f2, f3, f4])) (h : DataW.trod enc P w base spare held fuel t cs = some x) :
    ∃ y0 y1 y2 y3 y4 n, cs.length = P.cellsOf t ∧ DataW.trod enc P w base spare held n f0.type ((cs.drop f0.offset).take (P.cellsOf f0.type)) = some y0 ∧
      DataW.trod enc P w base spare held n f1.type ((cs.drop f1.offset).take (P.cellsOf f1.type)) = some y1 ∧ DataW.trod enc P w base spare held n f2.type ((cs.drop f2.offset).take (P.cellsOf f2.type)) = some y2 ∧
      DataW.trod enc P w base spare held n f3.type ((cs.drop f3.offset).take (P.cellsOf f3.type)) = some y3 ∧ DataW.trod enc P w base spare held n f4.type ((cs.drop f4.offset).take (P.cellsOf f4.type)) = some y4 := by
  obtain ⟨xs, n, _, rfl, hl, hlen, hf⟩ := DataW.trod_struct ht h
  match xs, hlen with
  | [y0, y1, y2, y3, y4], _ => exact ⟨y0, y1, y2, y3, y4, n, hl, by simpa using hf 0 f0 rfl, by simpa using hf 1 f1 rfl, by simpa using hf 2 f2 rfl, by simpa using hf 3 f3 rfl, by simpa using hf 4 f4 rfl⟩
set_option maxRecDepth 100000 in
theorem trod_act {H : Type} {enc : TypeId × Value → H} {W : World} {fuel : Nat} {cs : List Value} {x : DataW H × List MemPlace}
    (h : DataW.trod enc Try.prog W 0 (fun _ => true) true fuel 28 cs = some x) : ∃ a : AV, actRng a ∧ cs = actL a := by
  obtain ⟨y0, y1, y2, y3, y4, n, hl, h0, h1, h2, h3, h4⟩ := trod_struct5 Try.underlying28 h
  obtain ⟨k, e0, w0⟩ := trod_i64N h0
  obtain ⟨t, c, i, hc, e1, w1, w1'⟩ := trod_key h1
  obtain ⟨t', c', i', hc', e2, w2, w2'⟩ := trod_key h2
  obtain ⟨s, e3⟩ := trod_strN h3
  obtain ⟨m, e4, w4⟩ := trod_i64N h4
  refine ⟨(k, (t, c, i), (t', c', i'), s, m), ⟨hc, hc', rng_wf w0, rng_wf w1, rng_wf w1', rng_wf w2, rng_wf w2', rng_wf w4⟩, ?_⟩
  have c26 : Try.prog.cellsOf 26 = 34 := by kernel_rfl
  have c3 : Try.prog.cellsOf 3 = 1 := by kernel_rfl
  have c9 : Try.prog.cellsOf 9 = 1 := by kernel_rfl
  have c28 : Try.prog.cellsOf 28 = 71 := by kernel_rfl
  rw [c28] at hl
  simp only [c26, c3, c9, List.drop_zero] at e0 e1 e2 e3 e4
  have a1 := List.take_append_drop 1 cs
  have a2 := List.take_append_drop 34 (cs.drop 1)
  have a3 := List.take_append_drop 34 (cs.drop 35)
  have a4 := List.take_append_drop 1 (cs.drop 69)
  rw [List.drop_drop] at a2 a3 a4
  have a5 : (cs.drop 70).take 1 = cs.drop 70 := List.take_of_length_le (by simp; omega)
  unfold actL
  simp only
  rw [← e1, ← e2]
  rw [show ([.string s, .int .i64 m] : List Value) = [.string s] ++ [.int .i64 m] from rfl, ← e0, ← e3, ← e4, a5]
  simp only [List.append_assoc]
  rw [show 69 + 1 = 70 from rfl] at a4
  rw [a4]
  rw [show 35 + 34 = 69 from rfl] at a3
  rw [a3]
  rw [show 1 + 34 = 35 from rfl] at a2
  rw [a2, a1]
set_option maxRecDepth 100000 in
theorem reads_acts {H : Type} {enc : TypeId × Value → H} {W : World} {v : Value} {d : DataW H} {p : List MemPlace} (h : DataW.Trod enc Try.prog W 0 (fun _ => true) true 22 v d p) (hok : ∃ a len cap, v = .slice a len cap) :
    ∃ xs, actQ.Sl W v xs := Rec.reads (R := actQ) Try.underlying22 (by kernel_rfl) (fun fuel cs y hy => trod_act hy) h hok
theorem reads_act {H : Type} {enc : TypeId × Value → H} {W : World} {v : Value} {d : DataW H} {p : List MemPlace} (hok : ∃ cs, v = .agg cs) (h : DataW.Trod enc Try.prog W 0 (fun _ => true) true 28 v d p) : ∃ a : AV, actRng a ∧ v = .agg (actL a).toArray := by
  obtain ⟨cs, rfl⟩ := hok
  obtain ⟨fuel, hf⟩ := h
  obtain ⟨a, ha, hz⟩ := trod_act hf
  simp only [Value.cells] at hz
  exact ⟨a, ha, by rw [← hz]⟩
set_option maxRecDepth 100000 in
theorem ok_agg {W : World} {b0 : Nat} {t : TypeId} {v : Value} {fs : Array Field} (hu : Try.prog.underlying t = some (.struct fs)) (h : Value.okWide Try.prog W .any b0 t v) : ∃ cs, v = .agg cs := by
  unfold Value.okWide at h
  rw [hu] at h
  obtain ⟨cs, h, _⟩ := h
  exact ⟨cs, h⟩

set_option maxRecDepth 100000 in
theorem lives1_nil (bd : Nat) (w : World) (hbd : bd < w.heap.size) (hcell : w.cell? ⟨bd, 0, none⟩ = some (.pointer none)) (E : Nat → Prop) :
    SeqO Try.prog 50 #[.pointer (some ⟨bd, 0, none⟩)] (encL (zs := [])) (fun l => l = []) (fun l => False) 0 w E := by
  intro n l J Jx W U hW hJ hU hY h0
  refine callsIn_wide.2 ?_
  have e0 : W.cell? ⟨bd, 0, none⟩ = some (.pointer none) := (hW.cell (p := ⟨bd, 0, none⟩) hbd).trans hcell
  have H0 := Lib.hid h0
  clear hJ hU hY h0 hW hcell
  go_enter Try.func50, Try.ntmps50
  go_wp2
  refine bodyPost_ret (results_none rfl _ _ _) rfl ?_
  exact ⟨⟨_, rfl⟩, .inl ⟨[], U, rfl, H0.out⟩⟩
set_option maxHeartbeats 4000000 in
set_option maxRecDepth 100000 in
theorem text_nildoc (w : World) : Calls Try.prog 15 #[.pointer none] w fun e w' => e = .returned (.string ⟨#[]⟩) ∧ Below w.heap.size w w' := by
  obtain ⟨W0, hW0⟩ : ∃ W0, W0 = w.alloc (.cells #[.pointer none, .slice none 0 0] 76) := ⟨_, rfl⟩
  have hb0 : Below w.heap.size w W0 := by rw [hW0]; exact (Below.refl _ w).alloc (Nat.le_refl _) _
  have hs0 : W0.heap.size = w.heap.size + 1 := by rw [hW0]; simp
  have hv0 : W0.heap[w.heap.size]? = some (.cells #[.pointer none, .slice none 0 0] 76 (0, 0)) := by rw [hW0]; exact World.alloc_heap_new w _
  obtain ⟨b3, hb3⟩ : ∃ b, b = w.heap.size := ⟨_, rfl⟩
  have HB3 := Lib.hid hb3
  rw [← hb3] at hv0
  have HB0 := Lib.hid hb0
  have HS0 := Lib.hid hs0
  have HV0 := Lib.hid hv0
  clear hb0 hs0 hv0
  refine (callsIn_wide (n := 2)).1 ?_
  refine callsIn_of_wp_marks Try.func15 rfl trivial ?_ rfl
  simp only [Try.ntmps15, List.size_toArray, List.length_cons, List.length_nil, Nat.reduceAdd, Nat.reduceSub, Array.replicate_succ, Array.replicate_zero, List.push_toArray, List.append_toArray, List.nil_append, List.cons_append]
  refine (wpIn_wide (n := 2)).2 ?_
  go_upto_region 2 with fail
  rw [← hW0, ← hb3]
  clear hW0 hb3
  go_wp2_with fail
  refine (lives_any none W0).mono ?_
  rintro e w1 ⟨rfl, hw1⟩
  have hbw1 : Below W0.heap.size W0 w1 := by rw [hw1]; exact (Below.refl _ _).alloc (Nat.le_refl _) _
  have hcell : w1.cell? ⟨W0.heap.size, 0, none⟩ = some (.pointer none) := by
    rw [hw1, Lib.cell_of_heap (World.alloc_heap_new W0 _)]; rfl
  have hsz1 : W0.heap.size < w1.heap.size := by rw [hw1]; simp
  have HB1 := Lib.hid (HB0.out.trans (hbw1.mono HB0.out.size))
  have HV1 := Lib.hid ((hbw1.block b3 (by have := HS0.out; have := HB3.out; omega)).trans HV0.out)
  have HSQ := Lib.hid (lives1_nil W0.heap.size w1 hsz1 hcell (fun k => k = b3))
  have HLT := Lib.hid (show b3 < w1.heap.size by have := HS0.out; have := HB3.out; omega)
  clear hw1 hbw1 hcell hsz1
  go_wp2_with fail
  refine (wpIn_wide (n := 2)).1 ?_
  refine wp_rangeFuncO rfl enter50 HSQ.out (Below.refl _ _) (fun _ => rfl) (TxI w w1.heap.size b3 []) (fun _ _ _ _ => False) (txI_stays w _ b3 [] _ HB1.out.size) (fun _ _ _ _ _ h _ => h) (fun k => k = b3)
    ⟨.slice none 0 0, ⟨⟨_, .inl rfl, HV1.out⟩, ⟨by simp [txtL, valsL, Lib.byteCells], .inl ⟨rfl, by simp [txtL, valsL, Lib.byteCells]⟩⟩, by simp [Value.ownBlock]⟩, fun k => by simp [UB, Value.ownBlock], HB1.out⟩ ?hU (fun _ _ _ _ h => h.elim)
    (fun x a' WX bx => True) (fun x a' W b W' h e => trivial) (fun l x => absurd x.2 (by simp)) (fun l pre x => absurd x.2 (by simp)) ?done (fun _ _ _ _ _ _ _ _ h _ => h.elim) (fun k hk => by have := HLT.out; omega)
  case hU =>
    rintro pre U W ⟨v1, h1, h2, h3⟩ k hk
    refine ⟨h1.lt k ((h2 k).1 hk), ?_⟩
    rcases (h2 k).1 hk with h | h
    · exact .inr h
    · exact .inl (ownsRow_at h1.2.1 h).1
  case done =>
    rintro D xs U WX hD hUD rfl ⟨v1, h1, h2, h3⟩ hK
    have H1 := Lib.hid h1
    have H2 := Lib.hid h2
    have H3 := Lib.hid h3
    have HKD := Lib.hid hK
    have hbv : BV w.heap.size b3 (Lib.byteCells []) v1 WX := ⟨h1.1, ownsRow_base h1.2.1 HB1.out.size, h1.2.2⟩
    have HSTR := Lib.hid (Try.Builder_String_any_k w.heap.size b3 [] WX (Lib.IsBuilderF.of (bv_is (by have := HB3.out; omega) hbv)) h3.size)
    clear h1 h2 h3 hK hbv
    go_wp2_with fail
    refine HSTR.out.mono ?_
    rintro e w2 ⟨rfl, _, hb2, hok⟩
    have HK2 := Lib.hid (hok D _ HKD.out (by have := HLT.out; simp; omega) (fun c fz h => by cases h))
    have HB2 := Lib.hid (H3.out.trans hb2)
    clear hb2 hok
    go_wp2
    refine ⟨by simp, .inl ⟨_, _, rfl, run_takeDeferred HK2.out, ?_⟩⟩
    exact ⟨_, results_tmp rfl _ _ _, rfl, HB2.out.trans ⟨rfl, rfl, rfl, by simp, fun k hk => World.putObj_heap_other (by have := HB1.out.size; omega)⟩⟩
end Go.Proofs.Ytcgioboiebanpaa

namespace Go.Proofs.Ytcgioboiebanpaa
open Go.RowKit Go.Maps Go.WideShapes Go.ChangeShapes Go.Deep
set_option linter.unusedVariables false

structure ActAt (w : World) (b o : Nat) (x : AV) : Prop where
  kind : w.cell? ⟨b, o, none⟩ = some (.int .i64 x.1)
  kf : fits w ⟨b, o + 1, none⟩ 34
  ka : aggAt w ⟨b, o + 1, none⟩ 34 = keyB x.2.1.1 x.2.1.2.1 x.2.1.2.2
  af : fits w ⟨b, o + 35, none⟩ 34
  aa : aggAt w ⟨b, o + 35, none⟩ 34 = keyB x.2.2.1.1 x.2.2.1.2.1 x.2.2.1.2.2
  text : w.cell? ⟨b, o + 69, none⟩ = some (.string x.2.2.2.1)
  n : w.cell? ⟨b, o + 70, none⟩ = some (.int .i64 x.2.2.2.2)
theorem sub_agg {w : World} {b o n k m : Nat} {l : List Value} (h : fits w ⟨b, o, none⟩ n) (ha : (aggAt w ⟨b, o, none⟩ n) = l.toArray) (hm : k + m ≤ n) (c : List Value) (hc : (l.drop k).take m = c) (hl : c.length = m) :
    fits w ⟨b, o + k, none⟩ m ∧ aggAt w ⟨b, o + k, none⟩ m = c.toArray := by
  obtain ⟨h1, cs, e, f, h2, h3⟩ := h
  simp only at h2 h3
  refine ⟨⟨rfl, cs, e, f, h2, by simp only; omega⟩, ?_⟩
  unfold aggAt at ha ⊢
  simp only [h2] at ha ⊢
  apply Array.ext'
  have h4 : (cs.extract o (o + n)).toList = l := by rw [ha]
  rw [← hc, ← h4]
  simp only [Array.toList_extract, List.extract_eq_take_drop]
  rw [show o + k + m - (o + k) = m by omega, show o + n - o = n by omega, List.drop_take, List.drop_drop, List.take_take, Nat.min_eq_left (by omega)]
theorem ActAt.of {w : World} {b o : Nat} {x : AV} (hk : x.2.1.2.1.length = 32) (ha : x.2.2.1.2.1.length = 32) (h : actR.At w ⟨b, o, none⟩ x) : ActAt w b o x := by
  obtain ⟨h1, h2⟩ := h
  have h1 : fits w ⟨b, o, none⟩ 71 := h1
  have h2 : (aggAt w ⟨b, o, none⟩ 71) = (actL x).toArray := h2
  have l1 := keyL_len x.2.1.1 x.2.1.2.1 x.2.1.2.2 hk
  have l2 := keyL_len x.2.2.1.1 x.2.2.1.2.1 x.2.2.1.2.2 ha
  have hg : ∀ j, j < 71 → w.cell? ⟨b, o + j, none⟩ = (actL x)[j]? := fun j hj => by
    rw [aggAt_get h1 hj, h2, List.getElem?_toArray]
  have s1 := sub_agg h1 h2 (k := 1) (m := 34) (by decide) (keyB x.2.1.1 x.2.1.2.1 x.2.1.2.2).toList (by
    unfold actL
    rw [List.append_assoc, List.append_assoc, List.singleton_append, List.drop_succ_cons, List.drop_zero, List.take_append_of_le_length (by omega), List.take_of_length_le (by omega)]) l1
  have s2 := sub_agg h1 h2 (k := 35) (m := 34) (by decide) (keyB x.2.2.1.1 x.2.2.1.2.1 x.2.2.1.2.2).toList (by
    unfold actL
    rw [List.append_assoc, List.drop_append, List.drop_of_length_le (by simp only [List.length_append, List.length_singleton]; omega)]
    simp only [List.length_append, List.length_singleton, l1, List.nil_append]
    rw [show 35 - (1 + 34) = 0 from rfl, List.drop_zero, List.take_append_of_le_length (by omega), List.take_of_length_le (by omega)]) l2
  refine ⟨?_, s1.1, ?_, s2.1, ?_, ?_, ?_⟩
  · have := hg 0 (by decide)
    rw [Nat.add_zero] at this
    rw [this]; rfl
  · rw [s1.2]
  · rw [s2.2]
  · rw [hg 69 (by decide)]
    unfold actL
    rw [List.getElem?_append_right (by simp only [List.length_append, List.length_singleton]; omega)]
    simp only [List.length_append, List.length_singleton, l1, l2]
    rfl
  · rw [hg 70 (by decide)]
    unfold actL
    rw [List.getElem?_append_right (by simp only [List.length_append, List.length_singleton]; omega)]
    simp only [List.length_append, List.length_singleton, l1, l2]
    rfl
theorem ActAt.below {w w' : World} {b o : Nat} {x : AV} (h : ActAt w b o x) (hb : Below w.heap.size w w') : ActAt w' b o x := by
  have hl : b < w.heap.size := h.kf.lt
  have e := hb.block b hl
  exact ⟨(hb.cell (p := ⟨b, o, none⟩) hl).trans h.kind, fits_of_block (a := ⟨b, o + 1, none⟩) e h.kf, (aggAt_of_block (a := ⟨b, o + 1, none⟩) e).trans h.ka, fits_of_block (a := ⟨b, o + 35, none⟩) e h.af, (aggAt_of_block (a := ⟨b, o + 35, none⟩) e).trans h.aa, (hb.cell (p := ⟨b, o + 69, none⟩) hl).trans h.text, (hb.cell (p := ⟨b, o + 70, none⟩) hl).trans h.n⟩
theorem ActAt.box (w : World) (x : AV) (hk : x.2.1.2.1.length = 32) (ha : x.2.2.1.2.1.length = 32) : ActAt (w.alloc (.cells (actL x).toArray 28)) w.heap.size 0 x :=
  ActAt.of hk ha (Rec.At.new (R := actR) w 28 x ⟨hk, ha⟩)
set_option maxHeartbeats 4000000 in
set_option maxRecDepth 100000 in
theorem lawNil_any (x : AV) (hx : actRng x) (hs : x.2.2.2.1.size ≤ 1048576) (w : World) : Calls Try.prog 7 #[.agg (actL x).toArray] w fun e w' => e = .returned (.bool true) ∧ Below w.heap.size w w' := by
  have HBX := Lib.hid (ActAt.box w x hx.k32 hx.a32)
  obtain ⟨W, hW⟩ : ∃ W, W = w.alloc (.cells (actL x).toArray 28) := ⟨_, rfl⟩
  obtain ⟨b, hb⟩ : ∃ b, b = w.heap.size := ⟨_, rfl⟩
  have HBW := Lib.hid (show Below w.heap.size w W by rw [hW]; exact (Below.refl _ _).alloc (Nat.le_refl _) _)
  rw [← hW, ← hb] at HBX
  have HXR := Lib.hid hx
  have HS := Lib.hid hs
  obtain ⟨xk, ⟨kt, kc, ki⟩, ⟨at_, ac, ai⟩, s, n⟩ := x
  have e1 := HBX.out.n
  simp only [Nat.zero_add] at e1
  clear hx hs
  go_enter Try.func7, Try.ntmps7
  go_upto_region 1 with fail
  rw [← hW, ← hb]
  clear hW hb
  go_wp2_with fail
  refine (at_nil n W).mono ?_
  rintro e w1 ⟨rfl, hb1⟩
  have HB1 := Lib.hid (HBW.out.trans (hb1.mono HBW.out.size))
  have HBX1 := Lib.hid (HBX.out.below hb1)
  clear hb1 e1
  have f1 := HBX1.out.kf
  have f2 := HBX1.out.ka
  simp only [Nat.zero_add] at f1 f2
  go_upto_region 3 with (refine wpList_store_blk 26 34 (by kernel_rfl) rfl _ _ rfl w1.heap.size key0 (by rfl) (key_one _ _ _) rfl rfl _ (MapKept.heap_alloc w1 _).1 (by rfl) ?_)
  intro w2 s1 s2 s3
  have hb2 : Below w1.heap.size w1 w2 := ((Below.refl w1.heap.size w1).alloc (Nat.le_refl _) _).trans ⟨s3.os, s3.tape, s3.output, s3.size, fun j hj => s3.block j (by simp; omega) (by simp; omega)⟩
  have HB2 := Lib.hid (HB1.out.trans (hb2.mono HB1.out.size))
  have HBX2 := Lib.hid (HBX1.out.below hb2)
  clear s1 s2 s3 hb2 f1 f2
  have f1 := HBX2.out.kf
  have f2 := HBX2.out.ka
  simp only [Nat.zero_add] at f1 f2
  go_wp2_with fail
  refine (find_nil kt kc ki w2).mono ?_
  rintro e w3 ⟨rfl, hb3⟩
  have HB3 := Lib.hid (HB2.out.trans (hb3.mono HB2.out.size))
  have HBX3 := Lib.hid (HBX2.out.below hb3)
  clear hb3 f1 f2
  have f1 := HBX3.out.kf
  have f2 := HBX3.out.ka
  have f3 := HBX3.out.af
  have f4 := HBX3.out.aa
  have f5 := HBX3.out.text
  simp only [Nat.zero_add] at f1 f2 f3 f4 f5
  go_wp2_with fail
  refine (insert_nil kt at_ kc ac ki ai true s (by have := HS.out; unfold maxLen; omega) (by have := HS.out; omega) w3).mono ?_
  rintro e w4 ⟨rfl, hb4⟩
  have HB4 := Lib.hid (HB3.out.trans (hb4.mono HB3.out.size))
  have HBX4 := Lib.hid (HBX3.out.below hb4)
  clear hb4 f1 f2 f3 f4 f5
  have f1 := HBX4.out.kf
  have f2 := HBX4.out.ka
  have f3 := HBX4.out.n
  simp only [Nat.zero_add] at f1 f2 f3
  go_wp2_with fail
  refine (delete_nil kt kc ki n w4).mono ?_
  rintro e w5 ⟨rfl, hb5⟩
  have HB5 := Lib.hid (HB4.out.trans (hb5.mono HB4.out.size))
  clear hb5 f1 f2 f3
  go_wp2_with fail
  refine (text_nildoc w5).mono ?_
  rintro e w6 ⟨rfl, hb6⟩
  have HB6 := Lib.hid (HB5.out.trans (hb6.mono HB5.out.size))
  clear hb6
  go_wp2_with fail
  refine (len_nil w6).mono ?_
  rintro e w7 ⟨rfl, hb7⟩
  have HB7 := Lib.hid (HB6.out.trans (hb7.mono HB6.out.size))
  clear hb7
  go_wp2_with fail
  refine (size_nil w7).mono ?_
  rintro e w8 ⟨rfl, hb8⟩
  have HB8 := Lib.hid (HB7.out.trans (hb8.mono HB7.out.size))
  clear hb8
  go_wp2_with fail
  refine (pieces_nil w8).mono ?_
  rintro e w9 ⟨rfl, hb9⟩
  have HB9 := Lib.hid (HB8.out.trans (hb9.mono HB8.out.size))
  clear hb9
  go_wp2_with fail
  refine (copy_nil w9).mono ?_
  rintro e w10 ⟨rfl, hb10⟩
  have HB10 := Lib.hid (HB9.out.trans (hb10.mono HB9.out.size))
  clear hb10
  go_wp2_with fail
  refine (awake_any w10).mono ?_
  rintro e w11 ⟨rfl, hb11⟩
  have HB11 := Lib.hid (HB10.out.trans (hb11.mono HB10.out.size))
  clear hb11
  go_wp2
  go_ret
  exact ⟨rfl, HB11.out⟩
end Go.Proofs.Ytcgioboiebanpaa
