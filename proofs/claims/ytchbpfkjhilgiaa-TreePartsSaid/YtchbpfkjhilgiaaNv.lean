/- tree.way. -/
import Derived.Test.YtchbpfkjhilgiaaNr
import Derived.Shelf.Slices.Reverse
import Derived.WalkMore
namespace Go.Proofs
open Go.Shelf
def Try.revI_ren : Go.Shelf.Ren := ⟨fun | 112 => 45 | n => n, fun | 28 => 27 | 3 => 3 | 4 => 4 | 0 => 0 | n => n, fun | n => n⟩
theorem Try.revI : Go.Proofs.Lays.n112 Try.prog Try.revI_ren := {
  mixed := by kernel_rfl
  f112 := Try.func45.trans (congrArg some (by kernel_rfl))
  t0 := Try.underlying0
  a0 := Try.isAgg0
  z0 := Try.sizeOf0
  v0 := Try.zeroValue0
  t3 := Try.underlying3
  a3 := Try.isAgg3
  z3 := Try.sizeOf3
  v3 := Try.zeroValue3
  t4 := Try.underlying4
  a4 := Try.isAgg4
  z4 := Try.sizeOf4
  v4 := Try.zeroValue4
  t28 := Try.underlying27
  a28 := Try.isAgg27
  z28 := Try.sizeOf27
  v28 := Try.zeroValue27 }
end Go.Proofs
namespace Go.Proofs.Ytchbpfkjhilgiaa
open Go.RowKit
open Go.Sort hiding Below
set_option linter.unusedVariables false

theorem reverse_any (base : Nat) (A : List Nat) (v : Value) (w : World) (h : intR.row 3 base (toI A) v w) (hl : A.length ≤ 1000000) (hbw : base ≤ w.heap.size) :
    Calls Try.prog 45 #[v] w fun e w' => e = .returned (.tuple #[]) ∧ intR.row 3 base (toI A.reverse) v w' ∧ Go.RowKit.Below base w w' := by
  by_cases h0 : A = []
  · subst h0
    obtain ⟨p, cap, rfl⟩ : ∃ p cap, v = .slice p 0 cap := by
      obtain ⟨_, _, ⟨rfl, _⟩ | ⟨g, cap, cur, rfl, _⟩⟩ := h
      · exact ⟨_, _, rfl⟩
      · exact ⟨_, _, rfl⟩
    exact (Any.slices_Reverse_int_empty Try.revI p cap w).mono fun e w' ⟨he, hw⟩ => ⟨he, by rw [hw]; exact h, by rw [hw]; exact Go.RowKit.Below.refl _ _⟩
  · have h0' : toI A ≠ [] := by intro he; exact h0 (by simpa [toI] using he)
    obtain ⟨g, cap, rfl, hcap, hcm, hg, hlt⟩ := h.some h0'
    have hH : Holds (Value.int .i64) w g 0 (toI A).toArray := row.holds (Value.int .i64) (toI A).toArray h (by
      rw [toI_cells, List.toList_toArray]; unfold toI; rw [List.map_map]; rfl)
    refine (Any.slices_Reverse_int Try.revI g 0 cap (toI A) w hH (by rw [toI_len]; omega)).mono fun e w' ⟨he, n, hw⟩ => ⟨he, ?_, ?_⟩
    · have hw' : w' = sortWorld (Value.int .i64) w g 0 n (toI A).reverse.toArray #[] := by unfold sortWorld; rw [grow_empty]; exact hw
      rw [hw']
      refine row.sorted (Value.int .i64) _ n #[] h ?_ (fun _ _ => trivial) (by rw [toI_len, toI_len, List.length_reverse])
      rw [toI_cells, List.toList_toArray]; unfold toI; rw [List.map_reverse, List.map_reverse, List.map_map]; rfl
    · have hw' : w' = sortWorld (Value.int .i64) w g 0 n (toI A).reverse.toArray #[] := by unfold sortWorld; rw [grow_empty]; exact hw
      rw [hw']
      have hgb := grownBy_sortWorld (Value.int .i64) w g 0 n (toI A).reverse.toArray #[]
      exact (Go.RowKit.Below.refl base w).grown hgb hbw (fun k hk => by cases hk; exact hg)

end Go.Proofs.Ytchbpfkjhilgiaa

namespace Go.Proofs.Ytchbpfkjhilgiaa
open Go.RowKit
open Go.Sort hiding Below
set_option linter.unusedVariables false

set_option maxHeartbeats 4000000 in
set_option maxRecDepth 100000 in
theorem way_any (p : Option Addr) (c : Nat) (l : List Nd) (a : Nat) (w : World) (hlen : l.length ≤ 1000) (hin : nodeR.In w p l) (hR : RightL l) (ha : a < l.length) :
    Calls Try.prog 33 #[.slice p l.length c, .int .i64 (a : Int)] w fun e w' => ∃ v, e = .returned v ∧ intR.row 3 w.heap.size (toI ((forest l).way a)) v w' ∧ Go.RowKit.Below w.heap.size w w' := by
  have HX := Lib.hid hin
  have HR := Lib.hid hR
  have HWL := Lib.hid (show ((forest l).way a).length ≤ l.length by
    have hk : ∀ k i, (forest l).cnt i ≤ k → i < l.length → ((forest l).way i).length ≤ (forest l).cnt i + 1 := by
      intro k
      induction k with
      | zero =>
        intro i hk hi
        rw [Forest.way_eq hR.ok hi]
        cases hp : (forest l).par i with
        | none => simp [Forest.wayO]
        | some q => have := Forest.cnt_par hR.ok hi hp; omega
      | succ k ih =>
        intro i hk hi
        rw [Forest.way_eq hR.ok hi]
        cases hp : (forest l).par i with
        | none => simp [Forest.wayO]
        | some q =>
          have h1 := Forest.cnt_par hR.ok hi hp
          have h2 := ih q (by omega) (hR.ok.par i hi q hp).1
          simp only [Forest.wayO, List.length_append, List.length_singleton]; omega
    have h1 := hk _ a (Nat.le_refl _) ha
    have h2 : (forest l).cnt a < l.length := Forest.cnt_lt hR.ok ha
    omega)
  have HA := Lib.hid ha
  clear hin hR
  have hst : (Value.int .i64 (a : Int)) = .int .i64 (atI (some a)) := rfl
  rw [hst]
  clear hst
  go_enter Try.func33, Try.ntmps33
  go_wp2_with fail
  go_loopg [1, 5] ((forest l).depth (some a)) (fun g v1 v5 wr => ∃ (A : List Nat) (y : Option Nat), g = (forest l).depth y ∧ v1 = .int .i64 (atI y) ∧ intR.row 3 w.heap.size (toI A) v5 wr ∧ (forest l).way a = (forest l).wayO y ++ A.reverse ∧ (∀ i, y = some i → i < l.length) ∧ Go.RowKit.Below w.heap.size w wr)
  case atStart => exact ⟨[], some a, rfl, rfl, Rec.row.nil, by simp [Forest.wayO], fun i hi => by cases hi; exact HA.out, Go.RowKit.Below.refl _ _⟩
  case round =>
    obtain ⟨A, y, hg, rfl, hrow, hwy, hyl, hbw⟩ := hrel
    have HG := Lib.hid hg
    have HROW := Lib.hid hrow
    have HWY := Lib.hid hwy
    have HB := Lib.hid hbw
    have HAL := Lib.hid (show A.length ≤ l.length by
      have h1 := congrArg List.length hwy
      rw [List.length_append, List.length_reverse] at h1
      have := HWL.out; omega)
    clear hg hrow hwy hbw
    cases y with
    | none =>
      have hrv := reverse_any w.heap.size A _ wr HROW.out (by have := HAL.out; omega) HB.out.size
      have HRV := Lib.hid hrv
      have HWE := Lib.hid (show (forest l).way a = A.reverse from HWY.out)
      clear hrv
      unfold atI
      simp only
      go_wp2_with fail
      refine HRV.out.mono ?_
      rintro e w2 ⟨rfl, hr2, hb2⟩
      have HR2 := Lib.hid hr2
      have HB2 := Lib.hid (HB.out.trans hb2)
      clear hr2 hb2
      go_wp2
      go_ret
      exact ⟨_, rfl, by rw [HWE.out]; exact HR2.out, HB2.out⟩
    | some y =>
      have hy := hyl y rfl
      obtain ⟨b, off, rfl, hlt, h32, hat⟩ := node_at HX.out hy
      have HAT := Lib.hid hat
      have HPE := Lib.hid (show atI ((forest l).par y) = (l.getD y nd0).2.1 from ((par_iff HR.out hy _).1 rfl).symm)
      have HWQ := Lib.hid (Forest.way_eq HR.out.ok hy)
      have HDQ := Lib.hid (show (forest l).depth ((forest l).par y) < (forest l).depth (some y) by
        cases hp : (forest l).par y with
        | none => simp [Forest.depth]
        | some q => have := Forest.cnt_par HR.out.ok hy hp; simp only [Forest.depth]; omega)
      have HPL := Lib.hid (fun i (hi : (forest l).par y = some i) => (show i < l.length from (HR.out.ok.par y hy i hi).1))
      have i1 : (y : Int) < l.length := by omega
      have hba := (Go.RowKit.Below.refl wr.heap.size wr).alloc (Nat.le_refl _) (.cells #[.int .i64 (y : Int)] 3)
      have HRW := Lib.hid (HROW.out.below hba)
      have HINx := Lib.hid (show intR.In (wr.alloc (.cells #[.int .i64 (y : Int)] 3)) (some ⟨wr.heap.size, 0, none⟩) [(y : Int)] from Rec.In.one (R := intR) wr 3 (y : Int) trivial)
      have HBA := Lib.hid (HB.out.trans (hba.mono HB.out.size))
      have HTL := Lib.hid (show (toI A).length + 1 ≤ 100000000 by rw [toI_len]; have := HAL.out; omega)
      clear hba hat h32 hyl
      unfold atI
      simp only
      go_wp2_with (at_builtin; refine Rec.wpList_app int27 rfl _ _ rfl w.heap.size _ (toI A) [(y : Int)] (toI (A ++ [y])) (toI_snoc _ _) rfl HRW.out (some ⟨wr.heap.size, 0, none⟩) 1 rfl HINx.out (fun h => by cases h) HTL.out HBA.out.size ?_)
      rintro v7 w7 hr7 _ hb7
      have HR7 := Lib.hid hr7
      have HB7 := Lib.hid (HBA.out.trans hb7)
      have q1 := (HAT.out.below HB7.out).p
      rw [← HPE.out] at q1
      have q2 : b < w7.heap.size := Nat.lt_of_lt_of_le hlt HB7.out.size
      clear hr7 hb7
      go_wp2
      go_roundg ((forest l).depth ((forest l).par y))
      case measure => have := HG.out; have := HDQ.out; omega
      case rel => exact ⟨A ++ [y], (forest l).par y, rfl, rfl, HR7.out, by
        have h1 := HWY.out
        simp only [Forest.wayO] at h1
        rw [h1, HWQ.out]; simp, HPL.out, HB7.out⟩
end Go.Proofs.Ytchbpfkjhilgiaa

namespace Go.Proofs.Ytchbpfkjhilgiaa
open Go.RowKit
set_option linter.unusedVariables false

theorem way_len {l : List Nd} (hR : RightL l) {a : Nat} (ha : a < l.length) : ((forest l).way a).length ≤ l.length := by
  have hk : ∀ k i, (forest l).cnt i ≤ k → i < l.length → ((forest l).way i).length ≤ (forest l).cnt i + 1 := by
    intro k
    induction k with
    | zero =>
      intro i hk hi
      rw [Forest.way_eq hR.ok hi]
      cases hp : (forest l).par i with
      | none => simp [Forest.wayO]
      | some q => have := Forest.cnt_par hR.ok hi hp; omega
    | succ k ih =>
      intro i hk hi
      rw [Forest.way_eq hR.ok hi]
      cases hp : (forest l).par i with
      | none => simp [Forest.wayO]
      | some q =>
        have h1 := Forest.cnt_par hR.ok hi hp
        have h2 := ih q (by omega) (hR.ok.par i hi q hp).1
        simp only [Forest.wayO, List.length_append, List.length_singleton]; omega
  have h1 := hk _ a (Nat.le_refl _) ha
  have h2 : (forest l).cnt a < l.length := Forest.cnt_lt hR.ok ha
  omega
/-- What Compare tells. -/
noncomputable def cmpT (l : List Nd) (a b : Int) : Int × Bool := if RightL l ∧ 0 ≤ a ∧ 0 ≤ b ∧ a < l.length ∧ b < l.length then ((forest l).ec a.toNat b.toNat, true) else (0, false)
theorem wcmp_drop (F : Forest) (X Y : List Nat) (i : Nat) (h : X.take i = Y.take i) : F.wcmp X Y = F.wcmp (X.drop i) (Y.drop i) := by
  have := Forest.wcmp_front (F := F) (X.take i) (X.drop i) (Y.drop i)
  rw [List.take_append_drop] at this
  rw [h, List.take_append_drop] at this
  exact this
theorem wcmp_end (F : Forest) (X Y : List Nat) (i : Nat) (h : X.take i = Y.take i) (hi : i ≤ X.length) (hj : i ≤ Y.length) (he : X.length ≤ i ∨ Y.length ≤ i) : F.wcmp X Y = cmpInt X.length Y.length := by
  rw [wcmp_drop F X Y i h]
  have l1 : (X.drop i).length = X.length - i := List.length_drop
  have l2 : (Y.drop i).length = Y.length - i := List.length_drop
  unfold cmpInt
  cases hx : X.drop i with
  | nil =>
    rw [hx] at l1
    simp at l1
    cases hy : Y.drop i with
    | nil => rw [hy] at l2; simp at l2; simp only [Forest.wcmp]; rw [if_neg (by omega), if_neg (by omega)]
    | cons y v => rw [hy] at l2; simp at l2; simp only [Forest.wcmp]; rw [if_pos (by omega)]
  | cons x u =>
    rw [hx] at l1
    simp at l1
    cases hy : Y.drop i with
    | nil => rw [hy] at l2; simp at l2; simp only [Forest.wcmp]; rw [if_neg (by omega), if_pos (by omega)]
    | cons y v => rw [hy] at l2; simp at l2; omega
theorem wcmp_at (F : Forest) (X Y : List Nat) (i : Nat) (h : X.take i = Y.take i) (hi : i < X.length) (hj : i < Y.length) (hne : X.getD i 0 ≠ Y.getD i 0) : F.wcmp X Y = F.kc (Y.getD i 0) (X.getD i 0) := by
  rw [wcmp_drop F X Y i h, List.drop_eq_getElem_cons hi, List.drop_eq_getElem_cons hj]
  have e1 : X.getD i 0 = X[i] := by simp [List.getD_eq_getElem?_getD, hi]
  have e2 : Y.getD i 0 = Y[i] := by simp [List.getD_eq_getElem?_getD, hj]
  rw [e1, e2] at hne ⊢
  simp only [Forest.wcmp]
  rw [if_neg hne]
theorem take_same {X Y : List Nat} {i : Nat} (h : X.take i = Y.take i) (hi : i < X.length) (hj : i < Y.length) (he : X.getD i 0 = Y.getD i 0) : X.take (i + 1) = Y.take (i + 1) := by
  have e1 : X.getD i 0 = X[i] := by simp [List.getD_eq_getElem?_getD, hi]
  have e2 : Y.getD i 0 = Y[i] := by simp [List.getD_eq_getElem?_getD, hj]
  rw [List.take_succ_eq_append_getElem hi, List.take_succ_eq_append_getElem hj, h, ← e1, ← e2, he]

set_option maxHeartbeats 4000000 in
set_option maxRecDepth 100000 in
theorem tcompare_any (p : Option Addr) (c : Nat) (l : List Nd) (a b : Int) (w : World) (hlen : l.length ≤ 1000) (hin : nodeR.In w p l) :
    Calls Try.prog 20 #[.slice p l.length c, .int .i64 a, .int .i64 b] w fun e w' => e = .returned (.tuple #[.int .i64 (cmpT l a b).1, .bool (cmpT l a b).2]) ∧ Below w.heap.size w w' := by
  have HX := Lib.hid hin
  have HTR := Lib.hid (tright_any p c l w hlen hin)
  clear hin
  go_enter Try.func20, Try.ntmps20
  go_wp2_with fail
  go_step3
  go_wp2_with fail
  refine HTR.out.mono ?_
  rintro e w1 ⟨rfl, hb1⟩
  have HB1 := Lib.hid hb1
  clear hb1 HTR
  by_cases hR : RightL l
  case neg =>
    have hd : decide (RightL l) = false := decide_eq_false hR
    have HF := Lib.hid (show cmpT l a b = (0, false) from by unfold cmpT; rw [if_neg (fun h => hR h.1)])
    rw [hd]
    clear hd hR
    go_wp2
    (try rw [Exit.noGoto_ret])
    go_ret2
    exact ⟨by rw [HF.out]; rfl, HB1.out⟩
  case pos =>
  have hd : decide (RightL l) = true := decide_eq_true hR
  rw [hd]
  have HR := Lib.hid hR
  clear hd hR
  by_cases a1 : a < 0
  · have HF := Lib.hid (show cmpT l a b = (0, false) from by unfold cmpT; rw [if_neg (fun h => by omega)])
    go_wp2
    (try rw [Exit.noGoto_ret])
    go_ret2
    exact ⟨by rw [HF.out]; rfl, HB1.out⟩
  by_cases b1 : b < 0
  · have HF := Lib.hid (show cmpT l a b = (0, false) from by unfold cmpT; rw [if_neg (fun h => by omega)])
    go_wp2
    (try rw [Exit.noGoto_ret])
    go_ret2
    exact ⟨by rw [HF.out]; rfl, HB1.out⟩
  by_cases a2 : (l.length : Int) ≤ a
  · have HF := Lib.hid (show cmpT l a b = (0, false) from by unfold cmpT; rw [if_neg (fun h => by omega)])
    go_wp2
    (try rw [Exit.noGoto_ret])
    go_ret2
    exact ⟨by rw [HF.out]; rfl, HB1.out⟩
  by_cases b2 : (l.length : Int) ≤ b
  · have HF := Lib.hid (show cmpT l a b = (0, false) from by unfold cmpT; rw [if_neg (fun h => by omega)])
    go_wp2
    (try rw [Exit.noGoto_ret])
    go_ret2
    exact ⟨by rw [HF.out]; rfl, HB1.out⟩
  obtain ⟨an, rfl⟩ := Int.eq_ofNat_of_zero_le (show 0 ≤ a by omega)
  obtain ⟨bn, rfl⟩ := Int.eq_ofNat_of_zero_le (show 0 ≤ b by omega)
  have HCT := Lib.hid (show cmpT l an bn = ((forest l).ec an bn, true) from by unfold cmpT; rw [if_pos ⟨HR.out, by omega, by omega, by omega, by omega⟩]; rfl)
  have HWA := Lib.hid (way_any p c l an w1 hlen (HX.out.below HB1.out) HR.out (by omega))
  have HWB := Lib.hid (fun w' (hb : Below w1.heap.size w1 w') => way_any p c l bn w' hlen ((HX.out.below HB1.out).below hb) HR.out (by omega))
  have HXL := Lib.hid (fun i (hi : i ∈ (forest l).way an) => (show i < l.length from Forest.way_lt HR.out.ok (show an < l.length by omega) hi))
  have HYL := Lib.hid (fun i (hi : i ∈ (forest l).way bn) => (show i < l.length from Forest.way_lt HR.out.ok (show bn < l.length by omega) hi))
  have HEC := Lib.hid (show (forest l).ec an bn = (forest l).wcmp ((forest l).way an) ((forest l).way bn) from rfl)
  obtain ⟨X, hX⟩ : ∃ X, X = (forest l).way an := ⟨_, rfl⟩
  obtain ⟨Y, hY⟩ : ∃ Y, Y = (forest l).way bn := ⟨_, rfl⟩
  rw [← hX] at HWA HXL HEC
  rw [← hY] at HWB HYL HEC
  obtain ⟨R, hRR⟩ : ∃ R, R = cmpT l an bn := ⟨_, rfl⟩
  have HRR := Lib.hid hRR
  rw [← hRR] at HCT
  have hxs : X.length ≤ l.length := by rw [hX]; exact way_len HR.out (by omega)
  clear hX hY hRR
  go_wp2_with fail
  refine HWA.out.mono ?_
  rintro e w2 ⟨v2, rfl, hr2, hb2⟩
  obtain ⟨p2, c2, rfl, _, _, hi2, _⟩ := hr2.sl
  have HI2 := Lib.hid hi2
  have HW2 := Lib.hid (HWB.out w2 hb2)
  have HB2 := Lib.hid (HB1.out.trans (hb2.mono HB1.out.size))
  rw [toI_len]
  clear hr2 hb2 hi2 HWA HWB
  go_wp2_with fail
  refine HW2.out.mono ?_
  rintro e w3 ⟨v3, rfl, hr3, hb3⟩
  obtain ⟨p3, c3, rfl, _, _, hi3, _⟩ := hr3.sl
  have HIX := Lib.hid (HI2.out.below hb3)
  have HIY := Lib.hid hi3
  have HB3 := Lib.hid (HB2.out.trans (hb3.mono HB2.out.size))
  rw [toI_len]
  clear hr3 hb3 hi3 HI2 HW2
  go_wp2_with fail
  refine (cmpCompare X.length Y.length _).mono ?_
  rintro e w4 ⟨rfl, rfl⟩
  go_wp2_with fail
  go_step3
  go_wp2_with fail
  go_loopg [10, 11] X.length (fun g v10 v11 wr => ∃ k : Nat, g + k = X.length ∧ v11 = .int .i64 k ∧ v10 = .int .i64 (cmpInt X.length Y.length) ∧ k ≤ Y.length ∧ X.take k = Y.take k ∧ Below w3.heap.size w3 wr)
  case atStart => exact ⟨0, by omega, rfl, rfl, by omega, rfl, Below.refl _ _⟩
  case round =>
    obtain ⟨k, hg, rfl, rfl, hky, htk, hbw⟩ := hrel
    have HG := Lib.hid hg
    have HTK := Lib.hid htk
    have HB := Lib.hid hbw
    have HKY := Lib.hid hky
    clear hg htk hbw
    have fin : ∀ (hh : X.length ≤ k ∨ Y.length ≤ k), R = (cmpInt X.length Y.length, true) := fun hh => by
      rw [HCT.out, HEC.out, wcmp_end _ X Y k HTK.out (by have := HG.out; omega) HKY.out hh]
    have FIN := Lib.hid fin
    clear fin
    by_cases hx : k < X.length
    · by_cases hy : k < Y.length
      · have HKK := Lib.hid hx
        have HKV := Lib.hid hy
        have hxl := HXL.out (X.getD k 0) (by rw [List.getD_eq_getElem?_getD, List.getElem?_eq_getElem hx]; exact List.getElem_mem hx)
        have hyl := HYL.out (Y.getD k 0) (by rw [List.getD_eq_getElem?_getD, List.getElem?_eq_getElem hy]; exact List.getElem_mem hy)
        have hxI : (toI X)[k]? = some ((X.getD k 0 : Nat) : Int) := by unfold toI; rw [List.getElem?_map]; simp [List.getD_eq_getElem?_getD, hx]
        have hyI : (toI Y)[k]? = some ((Y.getD k 0 : Nat) : Int) := by unfold toI; rw [List.getElem?_map]; simp [List.getD_eq_getElem?_getD, hy]
        have HNE := Lib.hid (fun (hne : X.getD k 0 ≠ Y.getD k 0) => (show R = (kCmp (keyN l (Y.getD k 0)) (keyN l (X.getD k 0)), true) by rw [HCT.out, HEC.out, wcmp_at _ X Y k HTK.out hx hy hne]; rfl))
        have HEQ := Lib.hid (fun (he : X.getD k 0 = Y.getD k 0) => take_same HTK.out hx hy he)
        generalize X.getD k 0 = x at *
        generalize Y.getD k 0 = y at *
        rcases (HIX.out.below HB.out).2 with h | ⟨b2', o2, rfl, hlt2, hc2⟩
        · rw [h] at hxI; simp at hxI
        rcases (HIY.out.below HB.out).2 with h | ⟨b3', o3, rfl, hlt3, hc3⟩
        · rw [h] at hyI; simp at hyI
        have q1 := int_cell (hc2 k _ hxI)
        have q2 := int_cell (hc3 k _ hyI)
        have i1 : (k : Int) < X.length := by omega
        have i2 : (k : Int) < Y.length := by omega
        have d1 : decide ((k : Int) < X.length) = true := decide_eq_true i1
        have d2 : decide ((k : Int) < Y.length) = true := decide_eq_true i2
        clear hc2 hc3 hxI hyI
        by_cases hxy : x = y
        · have HT2 := Lib.hid (HEQ.out hxy)
          subst hxy
          have g1 : ((x : Int) != x) = false := by simp
          clear HNE HEQ
          go_wp2_with fail
          refine wp_region_over (by kernel_rfl) (by kernel_rfl) ?_
          repeat (go_big_quiet_step (fail))
          refine wpQuiet_nil ?_
          rintro _ ⟨z0, rfl⟩
          have HBZ := Lib.hid (HB.out.trans ((ov_below wr z0).mono HB.out.size))
          clear q1 q2
          go_wp2
          go_roundg (gk - 1)
          case measure => have := HG.out; have := HKK.out; omega
          case rel => exact ⟨k + 1, nat_step HG.out HKK.out, by go_num, rfl, by have := HKV.out; omega, HT2.out, HBZ.out⟩
        · have HR2 := Lib.hid (HNE.out hxy)
          have g1 : ((x : Int) != y) = true := by simp; omega
          clear HNE HEQ
          go_wp2_with fail
          refine wp_region_over (by kernel_rfl) (by kernel_rfl) ?_
          repeat (go_big_quiet_step (fail))
          refine wpQuiet_nil ?_
          rintro _ ⟨z0, rfl⟩
          have HBZ := Lib.hid (HB.out.trans ((ov_below wr z0).mono HB.out.size))
          have r1 : (ov wr z0).cell? ⟨b2', o2 + k, none⟩ = some (.int .i64 (x : Int)) := ((ov_below wr z0).cell (p := ⟨b2', o2 + k, none⟩) hlt2).trans q1
          have r2 : (ov wr z0).cell? ⟨b3', o3 + k, none⟩ = some (.int .i64 (y : Int)) := ((ov_below wr z0).cell (p := ⟨b3', o3 + k, none⟩) hlt3).trans q2
          have r3 : b2' < (ov wr z0).heap.size := Nat.lt_of_lt_of_le hlt2 (ov_below wr z0).size
          have r4 : b3' < (ov wr z0).heap.size := Nat.lt_of_lt_of_le hlt3 (ov_below wr z0).size
          obtain ⟨b4, o4, rfl, hlt4, h324, hat4⟩ := node_at (HX.out.below (HB3.out.trans (HBZ.out.mono HB3.out.size))) hxl
          obtain ⟨b5, o5, he5, hlt5, h325, hat5⟩ := node_at (HX.out.below (HB3.out.trans (HBZ.out.mono HB3.out.size))) hyl
          cases he5
          have s1 := hat4.kf
          have s2 := hat4.ka
          have s3 := hat5.kf
          have s4 := hat5.ka
          have HK := Lib.hid (show kCmp (keyN l y) (keyN l x) = keysCmp (l.getD y nd0).1.1 (l.getD y nd0).1.2.1 (l.getD y nd0).1.2.2 (l.getD x nd0).1.1 (l.getD x nd0).1.2.1 (l.getD x nd0).1.2.2 from rfl)
          have HKW := Lib.hid (fun W => keys_any (l.getD y nd0).1.1 (l.getD y nd0).1.2.1 (l.getD y nd0).1.2.2 (l.getD x nd0).1.1 (l.getD x nd0).1.2.1 (l.getD x nd0).1.2.2 h325 h324 W)
          rw [← HK.out] at HKW
          have j1 : (x : Int) < l.length := by omega
          have j2 : (y : Int) < l.length := by omega
          generalize ov wr z0 = wz at *
          generalize l.getD x nd0 = nx at *
          generalize l.getD y nd0 = ny at *
          generalize kCmp (keyN l y) (keyN l x) = cc at *
          clear q1 q2 hat4 hat5 HK h324 h325
          rename World => wq
          go_wp2_with fail
          refine wp_region_over (by kernel_rfl) (by kernel_rfl) ?_
          repeat (go_big_quiet_step ((go_at_call 19; exact Calls.over_of (HKW.out _))))
          refine wpQuiet_nil ?_
          rintro _ ⟨z0, rfl⟩
          have HBY := Lib.hid (HB3.out.trans ((HBZ.out.trans ((ov_below _ z0).mono HBZ.out.size)).mono HB3.out.size))
          clear r1 r2 r3 r4 s1 s2 s3 s4
          go_wp2
          (try rw [Exit.noGoto_ret])
          go_ret2
          exact ⟨by rw [← HRR.out, HR2.out]; rfl, HBY.out⟩
      · have HR2 := Lib.hid (FIN.out (.inr (by omega)))
        have d1 : decide ((k : Int) < X.length) = true := decide_eq_true (by omega)
        have d2 : decide ((k : Int) < Y.length) = false := decide_eq_false (by omega)
        have HBY := Lib.hid (HB3.out.trans (HB.out.mono HB3.out.size))
        go_wp2
        (try rw [Exit.noGoto_ret])
        go_ret2
        exact ⟨by rw [← HRR.out, HR2.out]; rfl, HBY.out⟩
    · have HR2 := Lib.hid (FIN.out (.inl (by omega)))
      have d1 : decide ((k : Int) < X.length) = false := decide_eq_false (by omega)
      have HBY := Lib.hid (HB3.out.trans (HB.out.mono HB3.out.size))
      go_wp2
      (try rw [Exit.noGoto_ret])
      go_ret2
      exact ⟨by rw [← HRR.out, HR2.out]; rfl, HBY.out⟩
end Go.Proofs.Ytchbpfkjhilgiaa
