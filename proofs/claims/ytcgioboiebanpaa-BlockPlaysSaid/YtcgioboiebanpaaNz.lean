/- Whole stores as rules of the walk; a document's text. -/
import Derived.Test.YtcgioboiebanpaaNy
namespace Go.Proofs.Ytcgioboiebanpaa
open Go.RowKit Go.Maps
set_option linter.unusedVariables false

/-- How many cells a block has. -/
def szAt (w : World) (b : Nat) : Option Nat := match w.heap[b]? with | some (.cells c _ fr) => if fr = (0, 0) then some c.size else none | _ => none
theorem szAt_of {w : World} {b : Nat} {c : Array Value} {t : TypeId} (h : w.heap[b]? = some (.cells c t (0, 0))) : szAt w b = some c.size := by unfold szAt; rw [h]; rfl
@[go_sem] theorem szAt_alloc (w : World) (c : Array Value) (t : TypeId) (b : Nat) : szAt (w.alloc (.cells c t)) b = if b = w.heap.size then some c.size else szAt w b := by
  split
  · next h => subst h; unfold szAt; rw [(MapKept.heap_alloc w _).1]; rfl
  · next h =>
    unfold szAt
    by_cases hb : b < w.heap.size
    · rw [Below.heap_alloc w _ b hb]
    · rw [Array.getElem?_eq_none (by simp; omega), Array.getElem?_eq_none (by omega)]
theorem setRow_alloc (w : World) (old cells : Array Value) (t : TypeId) : (w.alloc (.cells old t)).setRow w.heap.size cells = w.alloc (.cells cells t) := by
  unfold World.setRow World.alloc
  congr 1
  apply Array.ext_getElem?
  intro i
  simp only [Array.getElem?_modify, Array.getElem?_push]
  by_cases h : w.heap.size = i
  · subst h; simp
  · have h' : ¬ i = w.heap.size := fun e => h e.symm
    simp [h, h']
@[go_sem] theorem setRow_here (w : World) (old c : Array Value) (t : TypeId) (b : Nat) (h : b = w.heap.size) : (w.alloc (.cells old t)).setRow b c = w.alloc (.cells c t) := by
  subst h; exact setRow_alloc w old c t
@[go_sem] theorem setRow_size (w : World) (b : Nat) (c : Array Value) : (w.setRow b c).heap.size = w.heap.size := by simp [World.setRow]
/-- An aggregate of n one-cell values. -/
def aggN (n : Nat) (v : Value) : Prop := ∃ z, v = .agg z ∧ z.size = n ∧ z.all (·.oneCell') = true
theorem run_store_blk (T n : Nat) (ht : (Try.prog.info? T).map (·.size) = some n) (f : Operand → Value) (x y : Operand) (dst : Option Tmp) (ty' : TypeId) (pos : String) (after : Array Edge) (guard : Option (Nat × Bool)) (w : World)
    (hp : isPtr (f x) = true) (hf : (addrOf (f x)).off = 0) (hs : (addrOf (f x)).spot = none) (ho : szAt w (addrOf (f x)).block = some n) (hy : aggN n (f y)) :
    (execOp f ⟨dst, .store T x y, ty', pos, after, guard⟩).run Try.prog w = .ok .skip (w.setRow (addrOf (f x)).block (aggOf (f y))) := by
  obtain ⟨z, hz, hsz, hone⟩ := hy
  cases hfx : f x with
  | pointer a =>
    cases a with
    | none => rw [hfx] at hp; simp [isPtr] at hp
    | some a =>
      obtain ⟨b, o, s⟩ := a
      rw [hfx] at hf hs ho
      simp only [addrOf_ptr] at hf hs ho
      subst hf hs
      unfold szAt at ho
      split at ho
      · rename_i c t fr hh
        split at ho
        case isFalse => cases ho
        rename_i hfr
        subst hfr
        simp only [Option.some.injEq] at ho
        have hr := run_storeVar_row (P := Try.prog) w b t T c z hh (by rw [ht, hsz]) (by rw [ho, hsz]) hone
        unfold execOp
        simp only [hfx, hz, Instr.storeAt, Instr.sureAddr, Sem.run_bind, Sem.run_pure, Result.andThen_ok, hr, aggOf_agg, addrOf_ptr]
      · cases ho
  | _ => rw [hfx] at hp; simp [isPtr] at hp
theorem all_one {z : Array Value} (h : ∀ u ∈ z.toList, u.oneCell' = true) : z.all (·.oneCell') = true := by
  rw [Array.all_eq_true_iff_forall_mem]; intro u hu; exact h u (by simpa using hu)
@[go_sem] theorem aggN_run (x : RV) (h : x.1.2.1.length = 32) : aggN 36 (.agg (runB x)) := ⟨_, rfl, runB_size x h, all_one (run_one x)⟩
@[go_sem] theorem aggN_key (t : Int) (c : List UInt8) (i : Int) (h : c.length = 32) : aggN 34 (.agg (keyB t c i)) := ⟨_, rfl, by rw [keyB_size, h], all_one (key_one t c i)⟩
@[go_sem ↓] theorem store70g (f : Operand → Value) (x y : Operand) (dst : Option Tmp) (ty' : TypeId) (pos : String) (after : Array Edge) (guard : Option (Nat × Bool)) (w : World)
    (hp : isPtr (f x) = true) (hf : (addrOf (f x)).off = 0) (hs : (addrOf (f x)).spot = none) (ho : szAt w (addrOf (f x)).block = some 36) (hy : aggN 36 (f y)) :
    (execOp f ⟨dst, .store 70 x y, ty', pos, after, guard⟩).run Try.prog w = .ok .skip (w.setRow (addrOf (f x)).block (aggOf (f y))) := run_store_blk 70 36 (by kernel_rfl) f x y dst ty' pos after guard w hp hf hs ho hy
@[go_sem ↓] theorem store26g (f : Operand → Value) (x y : Operand) (dst : Option Tmp) (ty' : TypeId) (pos : String) (after : Array Edge) (guard : Option (Nat × Bool)) (w : World)
    (hp : isPtr (f x) = true) (hf : (addrOf (f x)).off = 0) (hs : (addrOf (f x)).spot = none) (ho : szAt w (addrOf (f x)).block = some 34) (hy : aggN 34 (f y)) :
    (execOp f ⟨dst, .store 26 x y, ty', pos, after, guard⟩).run Try.prog w = .ok .skip (w.setRow (addrOf (f x)).block (aggOf (f y))) := run_store_blk 26 34 (by kernel_rfl) f x y dst ty' pos after guard w hp hf hs ho hy
attribute [local go_sem] Oper.semAt_some
attribute [local go_sem ↓] semAt_run
theorem enter50 : ∀ args w, (callFunc 50 args).run Try.prog w = .ok (.enter 50 args) w := Go.Proofs.enters_of Try.func50 (by kernel_rfl) rfl

/-- The bytes of some live runs. -/
def txtL (l : List (Nat × ZR)) : List UInt8 := l.flatMap fun p => textL p.2.2.2.1
theorem txtL_snoc (l : List (Nat × ZR)) (p : Nat × ZR) : txtL (l ++ [p]) = txtL l ++ textL p.2.2.2.1 := by simp [txtL]
/-- A document's text. -/
def docText (rs : List MR) : List UInt8 := rs.flatMap fun r => if r.2.2 = true then [] else textL r.2.1
theorem txtL_lives : ∀ (zs : List ZR) (n : Nat), txtL (livesZ n zs) = docText (zs.map (·.2))
  | [], n => rfl
  | z :: zs, n => by
    have e : docText ((z :: zs).map (·.2)) = (if z.2.2.2 = true then [] else textL z.2.2.1) ++ docText (zs.map (·.2)) := by simp [docText]
    rw [e, livesZ]
    by_cases h : z.2.2.2 = true
    · rw [if_pos h, if_pos h, List.nil_append]
      exact txtL_lives zs n
    · rw [if_neg h, if_neg h]
      rw [show txtL ((n, z) :: livesZ (n + z.2.2.1.length) zs) = textL z.2.2.1 ++ txtL (livesZ (n + z.2.2.1.length) zs) by simp [txtL], txtL_lives]
theorem textL_len (rs : List Int) : (textL rs).length ≤ 4 * rs.length := by
  unfold textL; split
  · exact encs_len4 rs
  · simp
theorem len_le_tot {rs : List MR} {r : MR} (h : r ∈ rs) : r.2.1.length ≤ tot rs := by
  induction rs with
  | nil => cases h
  | cons a rs ih =>
    rw [tot_cons]
    rcases List.mem_cons.1 h with rfl | h
    · omega
    · have := ih h; omega
theorem liveN_tot : ∀ zs : List ZR, liveN zs ≤ tot (zs.map (·.2))
  | [] => by simp [liveN, tot]
  | z :: zs => by
    rw [liveN_cons, List.map_cons, tot_cons]
    have := liveN_tot zs
    split <;> omega
theorem txtL_len {zs : List ZR} {M : Nat} (h : ∀ z ∈ zs, z.2.2.1.length ≤ M) : ∀ l : List (LV zs), (txtL (valsL l)).length ≤ l.length * (4 * M)
  | [] => by simp [txtL, valsL]
  | p :: l => by
    have e : txtL (valsL (p :: l)) = textL p.1.2.2.2.1 ++ txtL (valsL l) := by simp [txtL, valsL]
    have h1 := textL_len p.1.2.2.2.1
    have h2 := h _ p.2
    have ih := txtL_len h l
    rw [e, List.length_append, List.length_cons, Nat.add_mul]
    omega
/-- What Text holds between two rounds: its builder. -/
def TxI (w : World) (B1 b3 : Nat) (zs : List ZR) (xs : List (LV zs)) (U : Nat → Prop) (W : World) : Prop :=
  ∃ v, BV B1 b3 (Lib.byteCells (txtL (valsL xs))) v W ∧ (∀ k, U k ↔ UB b3 v k) ∧ Below w.heap.size w W
theorem txI_stays (w : World) (B1 b3 : Nat) (zs : List ZR) (B : Nat) (hB : w.heap.size ≤ B) : Stays B (TxI w B1 b3 zs) := by
  intro pre U W W' ⟨v, h1, h2, h3⟩ ht
  refine ⟨v, h1.keep (fun k hk => ht.block k (h1.lt k hk) (fun h => h.2 ((h2 k).2 hk))), h2, ?_⟩
  exact h3.trans ⟨ht.os, ht.tape, ht.output, ht.size, fun k hk => ht.block k (by have := h3.size; omega) (fun h => by have : B ≤ k := h.1; omega)⟩
theorem BV.above {base b : Nat} {bs : List Value} {v : Value} {w : World} (hb : base ≤ b) (h : BV base b bs v w) (k : Nat) (hk : UB b v k) : base ≤ k := by
  rcases hk with rfl | hk
  · exact hb
  · exact (ownsRow_at h.2.1 hk).1
set_option maxHeartbeats 4000000 in
set_option maxRecDepth 100000 in
theorem text_doc (d : Nat) (v : Value) (zs : List ZR) (size live : Int) (w : World) (htot : tot (zs.map (·.2)) ≤ 10000) (hz : zs.length ≤ 10000) (h : Doc w d v zs size live) :
    Calls Try.prog 15 #[.pointer (some ⟨d, 0, none⟩)] w fun e w' => e = .returned (.string ⟨(docText (zs.map (·.2))).toArray⟩) ∧ Below w.heap.size w w' := by
  obtain ⟨W0, hW0⟩ : ∃ W0, W0 = w.alloc (.cells #[.pointer none, .slice none 0 0] 76) := ⟨_, rfl⟩
  have hb0 : Below w.heap.size w W0 := by rw [hW0]; exact (Below.refl _ w).alloc (Nat.le_refl _) _
  have hs0 : W0.heap.size = w.heap.size + 1 := by rw [hW0]; simp
  have hv0 : W0.heap[w.heap.size]? = some (.cells #[.pointer none, .slice none 0 0] 76 (0, 0)) := by rw [hW0]; exact World.alloc_heap_new w _
  obtain ⟨b3, hb3⟩ : ∃ b, b = w.heap.size := ⟨_, rfl⟩
  have HB3 := Lib.hid hb3
  rw [← hb3] at hv0
  have HB0 := Lib.hid hb0
  have HS0 := Lib.hid hs0
  have HV0 := Lib.hid hv0
  have HTOT := Lib.hid htot
  have HZ := Lib.hid hz
  have HD0 := Lib.hid (h.below hb0)
  have HTW := Lib.hid h.tells
  have HFR := Lib.hid (show Free W0 d v (fun k => k = b3) from fun k hk => by
    subst hk
    refine ⟨fun e => by have := h.lt; omega, fun e => ?_, fun cur hc => by rw [hv0] at hc; cases hc⟩
    obtain ⟨_, cur, hc⟩ := row_own h.row e
    have := (Array.getElem?_eq_some_iff.1 hc).1
    omega)
  clear h hb0 hs0 hv0 htot hz
  refine (callsIn_wide (n := 2)).1 ?_
  refine callsIn_of_wp_marks Try.func15 rfl trivial ?_ rfl
  simp only [Try.ntmps15, List.size_toArray, List.length_cons, List.length_nil, Nat.reduceAdd, Nat.reduceSub, Array.replicate_succ, Array.replicate_zero, List.push_toArray, List.append_toArray, List.nil_append, List.cons_append]
  refine (wpIn_wide (n := 2)).2 ?_
  go_upto_region 2 with fail
  rw [← hW0, ← hb3]
  clear hW0 hb3
  go_wp2_with fail
  refine (lives_any (some ⟨d, 0, none⟩) W0).mono ?_
  rintro e w1 ⟨rfl, hw1⟩
  have hbw1 : Below W0.heap.size W0 w1 := by rw [hw1]; exact (Below.refl _ _).alloc (Nat.le_refl _) _
  have hcell : w1.cell? ⟨W0.heap.size, 0, none⟩ = some (.pointer (some ⟨d, 0, none⟩)) := by
    rw [hw1, Lib.cell_of_heap (World.alloc_heap_new W0 _)]; rfl
  have hsz1 : W0.heap.size < w1.heap.size := by rw [hw1]; simp
  have HB1 := Lib.hid (HB0.out.trans (hbw1.mono HB0.out.size))
  have HV1 := Lib.hid ((hbw1.block b3 (by have := HS0.out; have := HB3.out; omega)).trans HV0.out)
  have HSQ := Lib.hid (lives1_any W0.heap.size d v zs size live w1 hsz1 hcell HZ.out (by have := liveN_tot zs; have := HTOT.out; omega) (HD0.out.below hbw1) (fun k => k = b3) (HFR.out.below (fun k hk => by have := HS0.out; have := HB3.out; omega) hbw1))
  have HDW := Lib.hid (HD0.out.below hbw1)
  have HLT := Lib.hid (show b3 < w1.heap.size by have := HS0.out; have := HB3.out; omega)
  clear hw1 hbw1 hcell hsz1
  go_wp2_with fail
  refine (wpIn_wide (n := 2)).1 ?_
  refine wp_rangeFuncO rfl enter50 HSQ.out (Below.refl _ _) (fun _ => rfl) (TxI w w1.heap.size b3 zs) (fun _ _ _ _ => False) (txI_stays w _ b3 zs _ HB1.out.size) (fun _ _ _ _ _ h _ => h) (fun k => k = b3)
    ⟨.slice none 0 0, ⟨⟨_, .inl rfl, HV1.out⟩, ⟨by simp [txtL, valsL, Lib.byteCells], .inl ⟨rfl, by simp [txtL, valsL, Lib.byteCells]⟩⟩, by simp [Value.ownBlock]⟩, fun k => by simp [UB, Value.ownBlock], HB1.out⟩ ?hU (fun _ _ _ _ h => h.elim)
    (fun x a' WX bx => a' = { tmps := #[.pointer (some ⟨d, 0, none⟩), undef, .string ⟨#[]⟩, .pointer (some ⟨b3, 0, none⟩), undef, .pointer (some ⟨bx, 0, none⟩), undef, undef, .pointer (some ⟨d, 0, none⟩), .func (.func 50) #[] #[.pointer (some ⟨W0.heap.size, 0, none⟩)], .int .i64 (x.1.1 : Int), .agg (runB x.1.2.1), undef, undef, undef, undef, undef, undef, undef, undef, undef], defers := [] } ∧ WX.heap[bx]? = some (.cells (runB x.1.2.1) 70 (0, 0)))
    (fun x a' W b W' h e => ⟨h.1, e.trans h.2⟩) ?assign ?body ?done (fun _ _ _ _ _ _ _ _ h _ => h.elim) (fun k hk => by have := HLT.out; omega)
  case hU =>
    rintro pre U W ⟨v1, h1, h2, h3⟩ k hk
    refine ⟨h1.lt k ((h2 k).1 hk), ?_⟩
    rcases (h2 k).1 hk with h | h
    · exact .inr h
    · exact .inl (ownsRow_at h1.2.1 h).1
  case assign =>
    rintro l ⟨⟨n, x, r⟩, hx⟩ WX K hK
    have HK := Lib.hid hK
    have hx32 : x.1.2.1.length = 32 := by have ht := HDW.out.tells _ hx; rw [ht.key]; exact ht.k32
    clear hK
    simp only [encL]
    gi_wp2
    exact HK.out _ _ WX.heap.size (.of_below ((Below.refl WX.heap.size WX).alloc (Nat.le_refl _) _) _) (Nat.le_refl _) (by simp) ⟨rfl, World.alloc_heap_new WX _⟩
  case body =>
    rintro l pre ⟨⟨n, x, r⟩, hx⟩ WX U bx a' ⟨v1, h1, h2, h3⟩ hlen ⟨rfl, hbx⟩ hub hbl hbw
    have htl := (HDW.out.tells _ hx)
    have hx32 : x.1.2.1.length = 32 := by rw [htl.key]; exact htl.k32
    have hra := RunAt.of hx32 (blk_ld hbx (runB_size x hx32)).1 (blk_ld hbx (runB_size x hx32)).2
    have e1 := hra.r
    rw [Nat.zero_add, htl.len] at e1
    have hrl : r.2.1.length ≤ 10000 := by have := len_le_tot (List.mem_map.2 ⟨_, hx, rfl⟩ : r ∈ zs.map (·.2)); have := HTOT.out; omega
    have HTX := Lib.hid (text_any x.2.1.1 x.2.1.2.2 r.2.1 WX (by omega) (((HTW.out _ hx).keep (.of_below h3)).runes.ints))
    have H1 := Lib.hid h1
    have H2 := Lib.hid h2
    have H3 := Lib.hid h3
    have HLEN := Lib.hid hlen
    have HRL := Lib.hid hrl
    clear h1 h2 h3 hlen hbx htl hra hrl
    gi_wp2_with fail
    refine ⟨trivial, CallsIn.inRound l ((callsIn_wide (n := 1)).2 (HTX.out.mono ?_))⟩
    rintro e w2 ⟨rfl, hb2⟩
    have HB2 := Lib.hid hb2
    have HBV := Lib.hid (H1.out.keep (w' := w2) (fun k hk => hb2.block k (H1.out.lt k hk)))
    have hbl : (Lib.byteCells (txtL (valsL pre))).length + (⟨(textL r.2.1).toArray⟩ : ByteArray).size ≤ 140737488355328 := by
      have q1 := txtL_len (M := 10000) (fun z hz => by have := len_le_tot (List.mem_map.2 ⟨_, hz, rfl⟩ : z.2 ∈ zs.map (·.2)); have := HTOT.out; omega) pre
      have q2 := textL_len r.2.1
      have q3 : pre.length * (4 * 10000) ≤ 10000 * (4 * 10000) := Nat.mul_le_mul_right _ (by have := HLEN.out; have := HZ.out; omega)
      have q4 : (⟨(textL r.2.1).toArray⟩ : ByteArray).size = (textL r.2.1).length := by show (textL r.2.1).toArray.size = _; simp
      have q5 : (Lib.byteCells (txtL (valsL pre))).length = (txtL (valsL pre)).length := by simp [Lib.byteCells]
      have := HRL.out
      rw [q4, q5]; omega
    have HWS := Lib.hid (writeString_bv w1.heap.size b3 _ v1 ⟨(textL r.2.1).toArray⟩ w2 HBV.out hbl (by have := hb2.size; omega))
    clear hb2 hbl e1
    gi_wp2_with fail
    refine ⟨trivial, CallsIn.inRound l ((callsIn_wide (n := 1)).2 (HWS.out.mono ?_))⟩
    rintro e w3 ⟨rfl, v3, hbv3, ht3, hu3⟩
    have HBV3 := Lib.hid hbv3
    have HT3 := Lib.hid ht3
    have HU3 := Lib.hid hu3
    clear hbv3 ht3 hu3
    gi_wp2
    refine ⟨?_, UB b3 v3, ⟨v3, ?_, fun k => Iff.rfl, ?_⟩, fun k hk => ?_⟩
    · refine (Turns.of_below HB2.out U).trans HT3.out (fun k hk _ => (H2.out k).2 hk)
    · have := HBV3.out
      rw [strCells_mk] at this
      rw [show valsL (pre ++ [⟨(n, x, r), hx⟩]) = valsL pre ++ [(n, x, r)] by simp [valsL], txtL_snoc]
      simpa [Lib.byteCells] using this
    · exact (H3.out.trans (HB2.out.mono H3.out.size)).trans (HT3.out.below (fun k hk _ hu => by
        rcases hu with rfl | hu
        · have := HB3.out; omega
        · have := (ownsRow_at HBV.out.2.1 hu).1; have := HB1.out.size; omega) (by have := HB2.out.size; have := H3.out.size; omega))
    · rcases HU3.out k hk with h | h
      · exact .inl ((H2.out k).2 h)
      · exact .inr (by have := HB2.out.size; omega)
  case done =>
    rintro D xs U WX hD hUD hS ⟨v1, h1, h2, h3⟩ hK
    have HS := Lib.hid hS
    have H1 := Lib.hid h1
    have H2 := Lib.hid h2
    have H3 := Lib.hid h3
    have HKD := Lib.hid hK
    have hbv : BV w.heap.size b3 (Lib.byteCells (txtL (valsL xs))) v1 WX := ⟨h1.1, ownsRow_base h1.2.1 HB1.out.size, h1.2.2⟩
    have HSTR := Lib.hid (Try.Builder_String_any_k w.heap.size b3 (txtL (valsL xs)) WX (Lib.IsBuilderF.of (bv_is (by have := HB3.out; omega) hbv)) h3.size)
    have HE := Lib.hid (show txtL (valsL xs) = docText (zs.map (·.2)) by rw [hS, txtL_lives])
    clear h1 h2 h3 hK hS hbv
    go_wp2_with fail
    refine HSTR.out.mono ?_
    rintro e w2 ⟨rfl, _, hb2, hok⟩
    have HK2 := Lib.hid (hok D _ HKD.out (by have := HLT.out; simp; omega) (fun c fz h => by cases h))
    have HB2 := Lib.hid (H3.out.trans hb2)
    clear hb2 hok
    go_wp2
    refine ⟨by simp, .inl ⟨_, _, rfl, run_takeDeferred HK2.out, ?_⟩⟩
    refine ⟨_, results_tmp rfl _ _ _, ?_, HB2.out.trans ⟨rfl, rfl, rfl, by simp, fun k hk => World.putObj_heap_other (by have := HB1.out.size; omega)⟩⟩
    rw [← HE.out]
    rfl
end Go.Proofs.Ytcgioboiebanpaa
