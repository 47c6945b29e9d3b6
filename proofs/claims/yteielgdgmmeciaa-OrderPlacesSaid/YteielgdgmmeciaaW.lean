/- Set. -/
import Derived.Test.YteielgdgmmeciaaOv
import Derived.Laws.Tables
import Derived.IntWalk
namespace Go.Proofs.Yteielgdgmmeciaa
open Go.RowKit
set_option linter.unusedVariables false

theorem idB_one (x : List UInt8) : (idB x).all (·.oneCell') = true := by
  rw [Array.all_eq_true_iff_forall_mem]
  intro v hv
  have : v ∈ Lib.byteCells x := by simpa [idB] using hv
  obtain ⟨c, _, rfl⟩ := List.mem_map.1 this
  rfl
theorem setRow_alloc (w : World) (old cells : Array Value) (t : TypeId) : (w.alloc (.cells old t)).setRow w.heap.size cells = w.alloc (.cells cells t) := by
  unfold World.setRow World.alloc
  congr 1
  apply Array.ext_getElem?
  intro i
  simp only [Array.getElem?_modify, Array.getElem?_push]
  by_cases h : w.heap.size = i
  · subst h; simp
  · have h' : ¬ i = w.heap.size := fun e => h e.symm
    simp [h, h']

@[go_sem ↓] theorem store23 (f : Operand → Value) (x y : Operand) (dst : Option Tmp) (ty' : TypeId) (pos : String) (after : Array Edge) (guard : Option (Nat × Bool)) (w : World) (old : Array Value)
    (hp : f x = .pointer (some ⟨w.heap.size, 0, none⟩)) (hy : idOk (f y)) (ho : old.size = 32) :
    (execOp f ⟨dst, .store 23 x y, ty', pos, after, guard⟩).run Try.prog (w.alloc (.cells old 23)) = .ok .skip (w.alloc (.cells (aggOf (f y)) 23)) := by
  obtain ⟨z, hz, hl⟩ := hy
  have hsz : (idB z).size = 32 := by rw [idB_size, hl]
  have h23 : (Try.prog.info? 23).map (·.size) = some 32 := by kernel_rfl
  have hr := run_storeVar_row (P := Try.prog) (w.alloc (.cells old 23)) w.heap.size 23 23 old (idB z) (MapKept.heap_alloc w _).1 (by rw [h23, hsz]) (by rw [ho, hsz]) (idB_one z)
  unfold execOp
  simp only [hp, hz, Instr.storeAt, Instr.sureAddr, Sem.run_bind, Sem.run_pure, Result.andThen_ok, hr, setRow_alloc, aggOf_agg]

/-- One id more, if it is not the last one again. -/
def ddF (out : List (List UInt8)) (x : List UInt8) : List (List UInt8) := if out = [] ∨ out.getLastD [] ≠ x then out ++ [x] else out
/-- order.Set. -/
def setL (xs : List (List UInt8)) : List (List UInt8) := (msort xs).foldl ddF []

set_option maxHeartbeats 1000000 in
set_option maxRecDepth 100000 in
theorem set_any (a : Option Addr) (cap : Nat) (xs : List (List UInt8)) (w : World) (hcap : xs.length ≤ cap) (hcm : cap ≤ maxLen) (hm : xs.length ≤ 1000000) (hin : IdsIn w a xs) (hn : a = none → xs = [] ∧ cap = 0) :
    Calls Try.prog 20 #[.slice a xs.length cap] w fun e w' => ∃ v, e = .returned v ∧ rowI w.heap.size (setL xs) v w' ∧ Below w.heap.size w w' := by
  have H := Lib.hid (sort_any a cap xs w hcap hcm hm hin hn)
  have h32 := Lib.hid hin.1
  have HM := Lib.hid hm
  clear hcap hcm hm hin hn
  go_enter Try.func20, Try.ntmps20
  go_wp2_with fail
  refine H.out.mono ?_
  rintro e w1 ⟨v, rfl, ho, hb⟩
  have HS := Lib.hid (SlI_row (msort_32 h32.out) ho)
  have HB := Lib.hid hb
  clear ho hb
  obtain ⟨a1, c1, rfl, q1, q2, q3, q4⟩ := HS.out
  have Q3 := Lib.hid q3
  have HL := Lib.hid (msort_length xs)
  unfold maxLen at q2
  clear q3 q4
  go_wp2_with fail
  go_loopg [3, 9] (msort xs).length (fun g vo i wr => ∃ (k : Nat) (O : List (List UInt8)), g + k = (msort xs).length ∧ i = .int .i64 k ∧ O = ((msort xs).take k).foldl ddF [] ∧ rowI w1.heap.size O vo wr ∧ O.length ≤ k ∧ (∀ x ∈ O, x.length = 32) ∧ Below w1.heap.size w1 wr)
  case atStart => exact ⟨0, [], by omega, rfl, by simp, ⟨by simp [idsC], .inl ⟨rfl, rfl⟩⟩, by simp, by simp, Below.refl _ _⟩
  case round =>
    obtain ⟨k, O, hg, rfl, hO, hrow, hlen, hO32, hb⟩ := hrel
    have HG := Lib.hid hg
    have HO := Lib.hid hO
    have HR := Lib.hid hrow
    have HLE := Lib.hid hlen
    have HO32 := Lib.hid hO32
    have HB1 := Lib.hid hb
    clear hg hO hrow hlen hO32 hb
    by_cases hk : k < (msort xs).length
    · rcases Q3.out.2 with h0 | ⟨b, off, rfl, hc⟩
      · rw [h0] at hk; simp at hk
      obtain ⟨e1, e2⟩ := IdAt.below (hc k hk) HB1.out
      have hx := msort_32 h32.out _ (getD_mem hk)
      have HT := Lib.hid (take_snoc [] (msort xs) k hk)
      generalize (msort xs).getD k [] = x at *
      clear hc
      have e7 := fits_new wr (idB x) 23 32 (by rw [idB_size, hx])
      have e8 := aggAt_new wr (idB x) 23 32 (by rw [idB_size, hx])
      obtain ⟨a2, c2, rfl, p1, p2, p3, p4⟩ := SlI_row HO32.out HR.out
      unfold maxLen at p2
      obtain ⟨wz, hwz⟩ : ∃ wz, wz = wr.alloc (.cells (idB x) 23) := ⟨_, rfl⟩
      have hbz := (Below.refl wr.heap.size wr).alloc (Nat.le_refl _) (.cells (idB x) 23)
      by_cases hO0 : O = []
      · have i0 : O.length = 0 := by rw [hO0]; rfl
        have HO0 := Lib.hid hO0
        clear hO0
        go_wp2_with fail
        rw [← hwz] at e7 e8 hbz ⊢
        have HBZ := Lib.hid (HB1.out.trans (hbz.mono HB1.out.size))
        have HRZ := Lib.hid (rowI_st _ _ _ _ _ HR.out hbz)
        have HI0 := Lib.hid i0
        clear hwz hbz i0
        have i1 : ((O.length : Int) == 0) = true := by simp [HI0.out]
        refine wp_region_over (by kernel_rfl) (by kernel_rfl) ?_
        repeat (go_big_quiet_step (fail))
        refine wpQuiet_nil ?_
        rintro _ ⟨x0, rfl⟩
        clear i1
        have HBQ := Lib.hid (HBZ.out.trans ((ov_below wz x0).mono HBZ.out.size))
        have HRQ := Lib.hid (rowI_st _ _ _ _ _ HRZ.out (ov_below wz x0))
        have g7 := fits_ov wz x0 _ _ e7
        have g8 := (agg_ov wz x0 _ _ e7).trans e8
        generalize ov wz x0 = wq at *
        obtain ⟨O1, hO1⟩ : ∃ O1, O1 = O ++ [x] := ⟨_, rfl⟩
        have HO1 := Lib.hid hO1
        have HC := Lib.hid (show (O : List (List UInt8)).length + [x].length ≤ 4000000 by have := HLE.out; have := HM.out; have := HL.out; simp only [List.length_cons, List.length_nil] at *; omega)
        clear hO1 e7 e8
        have HNEW := Lib.hid (one_new (w := wq) hx)
        have hbn := (Below.refl wq.heap.size wq).alloc (Nat.le_refl _) (.cells (idB x) 23)
        have HRN := Lib.hid (rowI_st _ _ _ _ _ HRQ.out hbn)
        have HBN := Lib.hid (HBQ.out.trans (hbn.mono HBQ.out.size))
        clear hbn
        go_wp2_with (at_builtin; refine wpList_append_to rfl _ _ rfl w1.heap.size _ O [x] O1 HO1.out rfl HRN.out _ 1 rfl HNEW.out (fun e => by cases e) HC.out HBN.out.size ?_)
        rintro vo1 w3 ho1 hb1
        have HOW := Lib.hid ho1
        have HB3 := Lib.hid (HBN.out.trans hb1)
        clear ho1 hb1
        go_wp2
        go_roundg (gk - 1)
        case measure => have := HG.out; omega
        case rel => exact ⟨k + 1, O1, by have := HG.out; omega, by go_num, by rw [HT.out, List.foldl_append, ← HO.out, HO1.out]; simp [ddF, HO0.out], HOW.out, by rw [HO1.out]; have := HLE.out; simp only [List.length_append, List.length_cons, List.length_nil] at *; omega, fun z hz => by rw [HO1.out] at hz; rcases List.mem_append.1 hz with hz | hz; exact HO32.out z hz; rw [List.mem_singleton.1 hz]; exact hx, HB3.out⟩
      · have hpos : 0 < O.length := by cases O; exact absurd rfl hO0; simp
        rcases p3.2 with h0 | ⟨b2, o2, rfl, hc2⟩
        · exact absurd h0 hO0
        obtain ⟨e5, e6⟩ := hc2 (O.length - 1) (by omega)
        have hy := HO32.out _ (getD_mem (by omega : O.length - 1 < O.length))
        obtain ⟨y, hye⟩ : ∃ y, y = O.getD (O.length - 1) [] := ⟨_, rfl⟩
        rw [← hye] at e6 hy
        have HY := Lib.hid hye
        obtain ⟨q, hq⟩ : ∃ q : Bool, (y == x) = q := ⟨_, rfl⟩
        have HQ := Lib.hid hq
        have HN0 := Lib.hid hO0
        have i1 : 0 < (O.length : Int) := by omega
        have i2 : ((O.length : Int) == 0) = false := by simp; omega
        have i4 : O ≠ [] := hO0
        have i5 : ((O.length : Int) - 1).toNat = O.length - 1 := by omega
        have i6 : IntKind.i64.wrap ((O.length : Int) - 1) = (O.length : Int) - 1 := IntWalk.i64_in _ (by omega)
        clear hye hq hc2
        go_wp2_with fail
        rw [← hwz] at e7 e8 hbz ⊢
        have e9 := IdAt.below ⟨e5, e6⟩ hbz
        clear e5 e6
        obtain ⟨e5, e6⟩ := e9
        have HBZ := Lib.hid (HB1.out.trans (hbz.mono HB1.out.size))
        have HRZ := Lib.hid (rowI_st _ _ _ _ _ HR.out hbz)
        clear hwz hbz
        refine wp_region_over (by kernel_rfl) (by kernel_rfl) ?_
        repeat (go_big_quiet_step (fail))
        refine wpQuiet_nil ?_
        rintro _ ⟨x0, rfl⟩
        rw [show (y == x) = q from HQ.out]
        clear e5 e6 i1 i2 i4 i5 i6 hO0
        have HYL := Lib.hid (show O.getLastD [] = y by rw [HY.out, List.getLastD_eq_getLast?, List.getLast?_eq_getElem?, List.getD_eq_getElem?_getD])
        cases q with
        | false =>
          have HNE := Lib.hid (show y ≠ x from fun e => by have := HQ.out; simp [e] at this)
          have HBQ := Lib.hid (HBZ.out.trans ((ov_below wz x0).mono HBZ.out.size))
          have HRQ := Lib.hid (rowI_st _ _ _ _ _ HRZ.out (ov_below wz x0))
          have g7 := fits_ov wz x0 _ _ e7
          have g8 := (agg_ov wz x0 _ _ e7).trans e8
          generalize ov wz x0 = wq at *
          obtain ⟨O1, hO1⟩ : ∃ O1, O1 = O ++ [x] := ⟨_, rfl⟩
          have HO1 := Lib.hid hO1
          have HC := Lib.hid (show (O : List (List UInt8)).length + [x].length ≤ 4000000 by have := HLE.out; have := HM.out; have := HL.out; simp only [List.length_cons, List.length_nil] at *; omega)
          clear hO1 e7 e8
          have HNEW := Lib.hid (one_new (w := wq) hx)
          have hbn := (Below.refl wq.heap.size wq).alloc (Nat.le_refl _) (.cells (idB x) 23)
          have HRN := Lib.hid (rowI_st _ _ _ _ _ HRQ.out hbn)
          have HBN := Lib.hid (HBQ.out.trans (hbn.mono HBQ.out.size))
          clear hbn
          go_wp2_with (at_builtin; refine wpList_append_to rfl _ _ rfl w1.heap.size _ O [x] O1 HO1.out rfl HRN.out _ 1 rfl HNEW.out (fun e => by cases e) HC.out HBN.out.size ?_)
          rintro vo1 w3 ho1 hb1
          have HOW := Lib.hid ho1
          have HB3 := Lib.hid (HBN.out.trans hb1)
          clear ho1 hb1
          go_wp2
          go_roundg (gk - 1)
          case measure => have := HG.out; omega
          case rel => exact ⟨k + 1, O1, by have := HG.out; omega, by go_num, by rw [HT.out, List.foldl_append, ← HO.out, HO1.out]; simp only [List.foldl_cons, List.foldl_nil, ddF]; rw [if_pos (.inr (by rw [HYL.out]; exact HNE.out))], HOW.out, by rw [HO1.out]; have := HLE.out; simp only [List.length_append, List.length_cons, List.length_nil] at *; omega, fun z hz => by rw [HO1.out] at hz; rcases List.mem_append.1 hz with hz | hz; exact HO32.out z hz; rw [List.mem_singleton.1 hz]; exact hx, HB3.out⟩
        | true =>
          have HEQ := Lib.hid (show y = x from by have := HQ.out; simpa using this)
          have HBQ := Lib.hid (HBZ.out.trans ((ov_below wz x0).mono HBZ.out.size))
          have HRQ := Lib.hid (rowI_st _ _ _ _ _ HRZ.out (ov_below wz x0))
          clear e7 e8
          go_wp2
          go_roundg (gk - 1)
          case measure => have := HG.out; omega
          case rel => exact ⟨k + 1, O, by have := HG.out; omega, by go_num, by rw [HT.out, List.foldl_append, ← HO.out]; simp only [List.foldl_cons, List.foldl_nil, ddF]; rw [if_neg (by rw [HYL.out]; intro h; rcases h with h | h; exact HN0.out h; exact h HEQ.out)], HRQ.out, by have := HLE.out; omega, HO32.out, HBQ.out⟩
    · have HKE := Lib.hid (show k = (msort xs).length by have := HG.out; omega)
      go_wp2
      go_ret
      have hOe : O = setL xs := by rw [HO.out, HKE.out, List.take_length]; rfl
      exact ⟨_, rfl, by rw [← hOe]; exact ownsRow_base HR.out HB.out.size, HB.out.trans (HB1.out.mono HB.out.size)⟩

end Go.Proofs.Yteielgdgmmeciaa
