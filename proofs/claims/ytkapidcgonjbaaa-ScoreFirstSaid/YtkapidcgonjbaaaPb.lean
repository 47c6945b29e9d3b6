/- Match: the walk. -/
import Derived.Test.YtkapidcgonjbaaaPd
import Derived.BigRegion
namespace Go.Proofs.Ytkapidcgonjbaaa
open Go.RowKit
open Go.Sort hiding Below
set_option linter.unusedVariables false

/-- The pairs that Match tells. -/
def matchL (rows : List (List Nat)) (least : Nat) : List (Int × Int) := (gRun rows.length (colsOf rows rows.length) (sortPs (allPs least rows rows.length))).2.2
def small (rows : List (List Nat)) : Prop := rows.length ≤ 30 ∧ ∀ r ∈ rows, r.length ≤ 30
theorem allPs_length (least : Nat) (rows : List (List Nat)) (h : ∀ r ∈ rows, r.length ≤ 30) (n : Nat) : (allPs least rows n).length ≤ n * 30 := by
  induction n with
  | zero => simp [allPs]
  | succ n ih =>
    rw [allPs_succ, List.length_append]
    have h1 := rowPs_length least n (rows.getD n []) (rows.getD n []).length
    have h2 : (rows.getD n []).length ≤ 30 := by
      by_cases hn : n < rows.length
      · rw [List.getD_eq_getElem?_getD, List.getElem?_eq_getElem hn]; exact h _ (List.getElem_mem hn)
      · rw [List.getD_eq_getElem?_getD, List.getElem?_eq_none (by omega)]; simp
    omega
theorem colsOf_le (rows : List (List Nat)) (h : ∀ r ∈ rows, r.length ≤ 30) (n : Nat) : colsOf rows n ≤ 30 := by
  induction n with
  | zero => simp [colsOf]
  | succ n ih =>
    by_cases hn : n < rows.length
    · rw [colsOf_succ rows n _ (List.getElem?_eq_getElem hn)]
      have := h _ (List.getElem_mem hn)
      omega
    · unfold colsOf at *
      rw [List.take_of_length_le (by omega)] at *
      exact ih

theorem allPs_num (least : Nat) (rows : List (List Nat)) (n : Nat) : ∀ p ∈ allPs least rows n, isN p.2.2 = false := by
  intro p hp
  unfold allPs at hp
  obtain ⟨i, _, hp⟩ := List.mem_flatMap.1 hp
  unfold rowPs at hp
  obtain ⟨k, _, hp⟩ := List.mem_filterMap.1 hp
  split at hp
  · rename_i h
    cases hp
    unfold tells at h
    simp at h
    exact h.1
  · cases hp
theorem info4 : (Try.prog.info? 4).map (fun i => (i.zero, i.size, i.bytes)) = some (some (.bool false), 1, 1) := by kernel_rfl
@[go_sem ↓] theorem mk60 (n : Nat) (h : n ≤ 1000000) (w : World) : (Instr.makeSlice 60 (.int .i64 (n : Int)) (.int .i64 (n : Int))).run Try.prog w = .ok (.slice (some ⟨w.heap.size, 0, none⟩) n n) (w.alloc (.cells (madeCells #[.bool false] n) 4)) := by
  have h4 := info4
  cases hi : Try.prog.info? 4 with
  | none => rw [hi] at h4; cases h4
  | some i =>
    rw [hi] at h4
    simp at h4
    obtain ⟨z0, z1, z2⟩ := h4
    have := run_make (P := Try.prog) w 60 4 i _ Try.underlying60 hi z0 .i64 .i64 n n (by omega) (Int.le_refl _) (by rw [z2]; omega) (by omega)
    rw [this, z1]
    simp [Value.cells]

set_option maxHeartbeats 4000000 in
set_option maxRecDepth 100000 in
theorem match_any (am : Option Addr) (cap : Nat) (rows : List (List Nat)) (least : Nat) (hl : least < 18446744073709551616) (w : World) (hm : MatW w am rows) (hsm : small rows) :
    Calls Try.prog 19 #[.slice am rows.length cap, .float .f64 least] w fun e w' => ∃ v, e = .returned v ∧ ijR.row 36 w.heap.size (matchL rows least) v w' ∧ Below w.heap.size w w' := by
  have HM := Lib.hid hm
  have HS := Lib.hid hsm
  have HLE := Lib.hid hl
  have hrl : rows.length ≤ 30 := hsm.1
  clear hm hsm hl
  go_enter Try.func19, Try.ntmps19
  go_wp2_with fail
  go_loopg [5, 6, 18] rows.length (fun g v5 v6 v18 wr => ∃ (k : Nat) (O : List Pr) (c : Nat), g + k = rows.length ∧ v18 = .int .i64 k ∧ v6 = .int .i64 c ∧ c = colsOf rows k ∧ O = allPs least rows k ∧ pairR.row 55 w.heap.size O v5 wr ∧ Below w.heap.size w wr)
  case atStart => exact ⟨0, [], 0, by omega, rfl, rfl, rfl, rfl, Rec.row.nil, Below.refl _ _⟩
  case round =>
    obtain ⟨k, O, c, hg, rfl, rfl, hc, hO, hrow, hb⟩ := hrel
    have HG := Lib.hid hg
    have HC := Lib.hid hc
    have HO := Lib.hid hO
    have HR := Lib.hid hrow
    have HB := Lib.hid hb
    have hc12 : c ≤ 30 := by rw [hc]; exact colsOf_le rows HS.out.2 k
    clear hg hc hO hrow hb
    by_cases hk : k < rows.length
    · have hrk : rows[k]? = some rows[k] := List.getElem?_eq_getElem hk
      obtain ⟨r, hr⟩ : ∃ r, r = rows[k] := ⟨_, rfl⟩
      rw [← hr] at hrk
      have hr12 : r.length ≤ 30 := by rw [hr]; exact HS.out.2 _ (List.getElem_mem hk)
      obtain ⟨b, off, rfl⟩ := HM.out.addr hk
      obtain ⟨hb0, a, rc, e0, hrc, hrm, hin, han⟩ := HM.out.row k r hrk
      have e1 := (HB.out.cell (p := ⟨b, off + k, none⟩) hb0).trans e0
      have hblt : b < wr.heap.size := Nat.lt_of_lt_of_le hb0 HB.out.size
      have HIN := Lib.hid hin
      have HRK := Lib.hid hrk
      have HOL := Lib.hid (show O.length ≤ 870 by have := allPs_length least rows HS.out.2 k; rw [← HO.out] at this; omega)
      have hkz : (k : Int) < rows.length := by omega
      clear hr hin hrk han e0
      go_wp2_with fail
      clear e1
      go_loopg [5, 29] r.length (fun g v5 v29 wz => ∃ (j : Nat) (A : List Pr), g + j = r.length ∧ v29 = .int .i64 j ∧ A = O ++ rowPs least k r j ∧ pairR.row 55 w.heap.size A v5 wz ∧ Below w.heap.size w wz)
      case atStart => exact ⟨0, O, by omega, rfl, by simp [rowPs], HR.out, HB.out⟩
      case round =>
        obtain ⟨j, A, hg2, rfl, hA, hrow2, hb2⟩ := hrel
        have HG2 := Lib.hid hg2
        have HA := Lib.hid hA
        have HR2 := Lib.hid hrow2
        have HB2 := Lib.hid hb2
        clear hg2 hA hrow2 hb2
        by_cases hj : j < r.length
        · have hx : r[j]? = some (r.getD j 0) := by simp [List.getD_eq_getElem?_getD, hj]
          have hxx : r.getD j 0 < 18446744073709551616 := HIN.out.1 _ (List.mem_of_getElem? hx)
          have HT := Lib.hid (rowPs_succ least k r j)
          obtain ⟨x, hxe⟩ : ∃ x, x = r.getD j 0 := ⟨_, rfl⟩
          rw [← hxe] at hx hxx HT
          rcases HIN.out.2 with h | ⟨b2, o2, rfl, hlt, hc2⟩
          · subst h; simp at hj
          have e2 := flt_cell ((hc2 j _ hx).below HB2.out)
          have hb2l : b2 < wr.heap.size := Nat.lt_of_lt_of_le hlt HB2.out.size
          have HX := Lib.hid hxx
          have hjz : (j : Int) < r.length := by omega
          clear hc2 hx hxx hxe hlt
          cases n1 : isN x with
          | true =>
            have H1 := Lib.hid n1
            have HF := Lib.hid (show tells least x = false by simp [tells, n1])
            clear n1
            go_wp2_with fail
            refine (isNaN_any x _).mono ?_
            rintro e w1 ⟨rfl, rfl⟩
            rw [H1.out]
            clear e2
            go_wp2
            go_roundg (gk - 1)
            case measure => have := HG2.out; omega
            case rel => exact ⟨j + 1, A, by have := HG2.out; omega, by go_num, by rw [HT.out, HF.out, HA.out]; simp, HR2.out, HB2.out⟩
          | false =>
            have H1 := Lib.hid n1
            cases n2 : isN least with
            | true =>
              have H2 := Lib.hid n2
              have HF := Lib.hid (show tells least x = false by simp [tells, n2])
              clear n1 n2
              go_wp2_with fail
              refine (isNaN_any x _).mono ?_
              rintro e w1 ⟨rfl, rfl⟩
              rw [H1.out]
              clear e2
              go_wp2_with fail
              refine (isNaN_any least _).mono ?_
              rintro e w1 ⟨rfl, rfl⟩
              rw [H2.out]
              go_wp2
              go_roundg (gk - 1)
              case measure => have := HG2.out; omega
              case rel => exact ⟨j + 1, A, by have := HG2.out; omega, by go_num, by rw [HT.out, HF.out, HA.out]; simp, HR2.out, HB2.out⟩
            | false =>
              have H2 := Lib.hid n2
              by_cases n3 : 0 ≤ fOrd x least
              · have HF := Lib.hid (show tells least x = true by simp [tells, n1, n2, n3])
                obtain ⟨t, ht⟩ : ∃ t, t = fOrd x least := ⟨_, rfl⟩
                rw [← ht] at n3
                have HTT := Lib.hid ht
                clear n1 n2 ht
                go_wp2_with fail
                refine (isNaN_any x _).mono ?_
                rintro e w1 ⟨rfl, rfl⟩
                rw [H1.out]
                clear e2
                go_wp2_with fail
                refine (isNaN_any least _).mono ?_
                rintro e w1 ⟨rfl, rfl⟩
                rw [H2.out]
                go_wp2_with fail
                refine (order_any x least HX.out HLE.out _).mono ?_
                rintro e w1 ⟨rfl, rfl⟩
                rw [← HTT.out]
                obtain ⟨A1, hA1⟩ : ∃ A1, A1 = A ++ [((k : Int), (j : Int), x)] := ⟨_, rfl⟩
                have HA1 := Lib.hid hA1
                clear hA1
                have HC1 := Lib.hid (show A.length + [((k : Int), (j : Int), x)].length ≤ 100000000 by
                  have h1 := rowPs_length least k r j
                  have h2 := congrArg List.length HA.out
                  have h3 := HOL.out
                  rw [List.length_append] at h2
                  simp only [List.length_cons, List.length_nil]
                  omega)
                have HNEW := Lib.hid (show pairR.In (wr.alloc (.cells #[.int .i64 (k : Int), .int .i64 (j : Int), .float .f64 x] 55)) (some ⟨wr.heap.size, 0, none⟩) [((k : Int), (j : Int), x)] from Rec.In.one wr 55 _ HX.out)
                have hbn := (Below.refl wr.heap.size wr).alloc (Nat.le_refl _) (.cells #[.int .i64 (k : Int), .int .i64 (j : Int), .float .f64 x] 55)
                have HRN := Lib.hid (HR2.out.below hbn)
                have HBN := Lib.hid (HB2.out.trans (hbn.mono HB2.out.size))
                clear hbn
                go_wp2_with (at_builtin; refine Rec.wpList_app pair53 rfl _ _ rfl w.heap.size _ A [((k : Int), (j : Int), x)] A1 HA1.out rfl HRN.out _ 1 rfl HNEW.out (fun e => by cases e) HC1.out HBN.out.size ?_)
                rintro v' w2 ho2 _ hb2
                have HO2 := Lib.hid ho2
                have HB3 := Lib.hid (HBN.out.trans hb2)
                clear ho2 hb2
                go_wp2
                go_roundg (gk - 1)
                case measure => have := HG2.out; omega
                case rel => exact ⟨j + 1, A1, by have := HG2.out; omega, by go_num, by rw [HA1.out, HT.out, HF.out, HA.out]; simp, HO2.out, HB3.out⟩
              · have HF := Lib.hid (show tells least x = false by simp [tells, n1, n2, n3])
                obtain ⟨t, ht⟩ : ∃ t, t = fOrd x least := ⟨_, rfl⟩
                rw [← ht] at n3
                have HTT := Lib.hid ht
                clear n1 n2 ht
                go_wp2_with fail
                refine (isNaN_any x _).mono ?_
                rintro e w1 ⟨rfl, rfl⟩
                rw [H1.out]
                clear e2
                go_wp2_with fail
                refine (isNaN_any least _).mono ?_
                rintro e w1 ⟨rfl, rfl⟩
                rw [H2.out]
                go_wp2_with fail
                refine (order_any x least HX.out HLE.out _).mono ?_
                rintro e w1 ⟨rfl, rfl⟩
                rw [← HTT.out]
                go_wp2
                go_roundg (gk - 1)
                case measure => have := HG2.out; omega
                case rel => exact ⟨j + 1, A, by have := HG2.out; omega, by go_num, by rw [HT.out, HF.out, HA.out]; simp, HR2.out, HB2.out⟩
        · have HJE := Lib.hid (show j = r.length by have := HG2.out; omega)
          go_wp2
          go_roundg (rows.length - (k + 1))
          case measure => have := HG.out; omega
          case rel =>
            refine ⟨k + 1, A, max c r.length, by have := HG.out; omega, by go_num, ?_, ?_, ?_, HR2.out, HB2.out⟩
            · congr 1; omega
            · rw [colsOf_succ rows k r HRK.out, HC.out]
            · have hr : rows.getD k [] = r := by rw [List.getD_eq_getElem?_getD, HRK.out]; rfl
              rw [allPs_succ, hr, HA.out, HJE.out, HO.out]
    · have hkE : k = rows.length := by have := HG.out; omega
      subst hkE
      have HSO := Lib.hid (sortP_any w.heap.size O u5 wr HR.out (by rw [HO.out]; exact allPs_num least rows _) (by have := allPs_length least rows HS.out.2 rows.length; rw [← HO.out] at this; omega) HB.out.size)
      clear HR HG
      go_wp2_with fail
      refine HSO.out.mono ?_
      rintro e w1 ⟨rfl, hr1, hb1⟩
      have HR1 := Lib.hid hr1
      have HB1 := Lib.hid (HB.out.trans hb1)
      clear hr1 hb1 HSO
      obtain ⟨SP, hSP⟩ : ∃ SP, SP = sortPs O := ⟨_, rfl⟩
      rw [← hSP] at HR1
      have HSP := Lib.hid hSP
      clear hSP
      obtain ⟨a5, c5, rfl, hc5, hm5, hin5, hn5⟩ := HR1.out.sl
      have HIN5 := Lib.hid hin5
      have hSL : SP.length ≤ 900 := by
        have h1 := allPs_length least rows HS.out.2 rows.length
        rw [← HO.out] at h1
        have h2 : SP.length = O.length := by rw [HSP.out]; exact List.length_mergeSort _
        omega
      clear hin5 hn5
      have hrows : rows.length ≤ 1000000 := by omega
      have hcols : c ≤ 1000000 := by omega
      go_wp2_with fail
      go_big_region
      · obtain ⟨W5, hW5⟩ : ∃ W5, W5 = ((w1.alloc (Obj.cells (madeCells #[Value.bool false] rows.length) 4)).alloc (Obj.cells (madeCells #[Value.bool false] c) 4)).drew := ⟨_, rfl⟩
        have hbr : W5.heap[w1.heap.size]? = some (Obj.cells (madeCells #[Value.bool false] rows.length) 4) := by rw [hW5]; exact (Below.heap_alloc (w1.alloc (Obj.cells (madeCells #[Value.bool false] rows.length) 4)) (Obj.cells (madeCells #[Value.bool false] c) 4) w1.heap.size (by simp)).trans (MapKept.heap_alloc w1 _).1
        have hbc : W5.heap[w1.heap.size + 1]? = some (Obj.cells (madeCells #[Value.bool false] c) 4) := by rw [hW5]; exact by have := (MapKept.heap_alloc (w1.alloc (Obj.cells (madeCells #[Value.bool false] rows.length) 4)) (Obj.cells (madeCells #[Value.bool false] c) 4)).1; simp only [World.size_alloc] at this; exact this
        have hs5 : W5.heap.size = w1.heap.size + 1 + 1 := by rw [hW5]; simp
        have hb5 : Below w1.heap.size w1 W5 := by rw [hW5]; exact ((((Below.refl _ w1).alloc (Nat.le_refl _) _).alloc (by simp) _).drew)
        obtain ⟨gr, hgr⟩ : ∃ gr, gr = w1.heap.size := ⟨_, rfl⟩
        obtain ⟨gc, hgc⟩ : ∃ gc, gc = w1.heap.size + 1 := ⟨_, rfl⟩
        have hne : gr ≠ gc := by omega
        have hgr0 : w1.heap.size ≤ gr := by omega
        have hgc0 : w1.heap.size ≤ gc := by omega
        have hgr5 : gr < W5.heap.size := by omega
        have hgc5 : gc < W5.heap.size := by omega
        rw [← hW5]
        rw [← hgc, ← hgr]
        rw [← hgr] at hbr
        rw [← hgc] at hbc
        clear hW5 hgr hgc hs5
        have HBR := Lib.hid (bools_new w1.heap.size hgr0 hrows hbr)
        have HBC := Lib.hid (bools_new w1.heap.size hgc0 hcols hbc)
        have HB5 := Lib.hid hb5
        clear hbr hbc hb5
        go_wp2_with fail
        go_loopg [13, 66] SP.length (fun g v13 v66 wr => ∃ (k : Nat) (S : List Bool × List Bool × List (Int × Int)), g + k = SP.length ∧ v66 = .int .i64 k ∧ S = gRun rows.length c (SP.take k) ∧ boolR.row 4 w1.heap.size S.1 (.slice (some ⟨gr, 0, none⟩) rows.length rows.length) wr ∧ boolR.row 4 w1.heap.size S.2.1 (.slice (some ⟨gc, 0, none⟩) c c) wr ∧ ijR.row 36 W5.heap.size S.2.2 v13 wr ∧ Below w1.heap.size w1 wr ∧ W5.heap.size ≤ wr.heap.size)
        case atStart => exact ⟨0, _, by omega, rfl, rfl, HBR.out, HBC.out, Rec.row.nil, HB5.out, Nat.le_refl _⟩
        case round =>
          obtain ⟨k, S, hg, rfl, hS, hmr, hmc, hout, hbw, hsz⟩ := hrel
          obtain ⟨R, C, out⟩ := S
          simp only at hmr hmc hout
          have HG := Lib.hid hg
          have HSS := Lib.hid hS
          have HMR := Lib.hid hmr
          have HMC := Lib.hid hmc
          have HOUT := Lib.hid hout
          have HBW := Lib.hid hbw
          have hlR : R.length = rows.length := by have := (gRun_len rows.length c (SP.take k)).1; rw [← hS] at this; exact this
          have hlC : C.length = c := by have := (gRun_len rows.length c (SP.take k)).2.1; rw [← hS] at this; exact this
          have hlO : out.length ≤ 900 := by
            have := (gRun_len rows.length c (SP.take k)).2.2
            rw [← hS, List.length_take] at this
            simp only at this
            omega
          clear hg hS hmr hmc hout hbw
          by_cases hk : k < SP.length
          · obtain ⟨p, hp⟩ : ∃ p, SP[k]? = some p := ⟨_, List.getElem?_eq_getElem hk⟩
            have hpo : p ∈ allPs least rows rows.length := by rw [← HO.out]; exact (List.mergeSort_perm _ _).mem_iff.1 (by have := List.mem_of_getElem? hp; rw [HSP.out] at this; exact this)
            obtain ⟨i, j, h1, h2, hi, hj⟩ := allPs_mem least rows p hpo
            rw [← HC.out] at hj
            obtain ⟨pi, pj, px⟩ := p
            simp only at h1 h2
            subst h1 h2
            have HGS := Lib.hid (gRun_succ rows.length c SP k _ hp)
            rcases HIN5.out.2 with h | ⟨b5, o5, rfl, hlt5, hc5'⟩
            · rw [h] at hk; simp at hk
            obtain ⟨e1, e2⟩ := (hc5' k _ hp).below HBW.out
            change fits wr ⟨b5, o5 + k * 3, none⟩ 3 at e1
            change aggAt wr ⟨b5, o5 + k * 3, none⟩ 3 = #[.int .i64 i, .int .i64 j, .float .f64 px] at e2
            clear hc5' hpo hp
            have hkz : (k : Int) < SP.length := by omega
            obtain ⟨X, hX⟩ : ∃ X, X = (Obj.cells #[.int .i64 (i : Int), .int .i64 (j : Int), .float .f64 px] 55) := ⟨_, rfl⟩
            have HBN := Lib.hid ((Below.refl wr.heap.size wr).alloc (Nat.le_refl _) X)
            have hi' : i < R.length := by omega
            have hj' : j < C.length := by omega
            have e3 := bool_cell hi' HMR.out
            have e4 := bool_cell hj' HMC.out
            have l3 : gr < wr.heap.size := by omega
            have l4 : gc < wr.heap.size := by omega
            have i3 : (i : Int) < rows.length := by omega
            have i4 : (j : Int) < c := by omega
            obtain ⟨rb, hrb⟩ : ∃ rb, rb = R.getD i false := ⟨_, rfl⟩
            obtain ⟨cb, hcb⟩ : ∃ cb, cb = C.getD j false := ⟨_, rfl⟩
            rw [← hrb] at e3
            rw [← hcb] at e4
            have HST := Lib.hid (show gStep (R, C, out) ((i : Int), (j : Int), px) = if rb = false ∧ cb = false then (R.set i true, C.set j true, out ++ [((i : Int), (j : Int))]) else (R, C, out) by
              simp only [gStep, Int.toNat_natCast, ← hrb, ← hcb])
            have HX := Lib.hid hX
            clear hrb hcb hX
            cases rb with
            | true =>
              go_wp2
              rw [← HX.out]
              go_roundg (gk - 1)
              case measure => have := HG.out; omega
              case rel => exact ⟨k + 1, (R, C, out), by have := HG.out; omega, by go_num, by rw [HGS.out, ← HSS.out, HST.out]; simp, HMR.out.below HBN.out, HMC.out.below HBN.out, HOUT.out.below HBN.out, HBW.out.trans (HBN.out.mono HBW.out.size), Nat.le_trans hsz HBN.out.size⟩
            | false =>
              cases cb with
              | true =>
                go_wp2
                rw [← HX.out]
                go_roundg (gk - 1)
                case measure => have := HG.out; omega
                case rel => exact ⟨k + 1, (R, C, out), by have := HG.out; omega, by go_num, by rw [HGS.out, ← HSS.out, HST.out]; simp, HMR.out.below HBN.out, HMC.out.below HBN.out, HOUT.out.below HBN.out, HBW.out.trans (HBN.out.mono HBW.out.size), Nat.le_trans hsz HBN.out.size⟩
              | false =>
                obtain ⟨W6, hW6⟩ : ∃ W6, W6 = wr.alloc X := ⟨_, rfl⟩
                have hq : W6.heap[wr.heap.size]? = some X := by rw [hW6]; exact (MapKept.heap_alloc wr X).1
                obtain ⟨q, hqe⟩ : ∃ q, q = wr.heap.size := ⟨_, rfl⟩
                have hs6 : W6.heap.size = wr.heap.size + 1 := by rw [hW6]; simp
                rw [← hW6] at HBN
                rw [← hqe] at hq hs6
                rw [HX.out] at hq
                have f1 : W6.cell? ⟨q, 0, none⟩ = some (.int .i64 (i : Int)) := by rw [Lib.cell_of_heap hq]; rfl
                have f2 : W6.cell? ⟨q, 1, none⟩ = some (.int .i64 (j : Int)) := by rw [Lib.cell_of_heap hq]; rfl
                have hmr6 := HMR.out.below HBN.out
                have hmc6 := HMC.out.below HBN.out
                have f3 : W6.cell? ⟨gr, i, none⟩ = some (.bool false) := (HBN.out.cell (p := ⟨gr, i, none⟩) l3).trans e3
                have f4 : W6.cell? ⟨gc, j, none⟩ = some (.bool false) := (HBN.out.cell (p := ⟨gc, j, none⟩) l4).trans e4
                have f5 := bool_frozen hi' hmr6
                have f6 := bool_frozen hj' hmc6
                have n1 : q ≠ gr := by omega
                have n2 : q ≠ gc := by omega
                have n3 : gr ≠ q := by omega
                have n4 : gc ≠ q := by omega
                have n5 : gc ≠ gr := by omega
                have HQ := Lib.hid hq
                have M1 := Lib.hid (marks_set hne hmr6 hmc6 hi' hj')
                have M2 := Lib.hid (marks_set n5 hmc6 hmr6 hj' hi')
                have HO6 := Lib.hid (HOUT.out.below HBN.out)
                have HB6 := Lib.hid (HBW.out.trans (HBN.out.mono HBW.out.size))
                have hsz6 : W5.heap.size ≤ W6.heap.size := by omega
                have hq5 : W5.heap.size ≤ q := by omega
                clear hq hmr6 hmc6
                go_upto_region 21 with fail
                rw [← HX.out, ← hW6, ← hqe]
                clear hW6 hqe HBN e1 e2 e3 e4 l3 l4
                go_big_region
                obtain ⟨W7, hW7⟩ : ∃ W7, W7 = ((W6.setCell ⟨gr, i, none⟩ (.bool true)).setCell ⟨gc, j, none⟩ (.bool true)).drew := ⟨_, rfl⟩
                rw [← hW7]
                rw [← hW7] at M1
                obtain ⟨mr, mc, mo, ms, mb⟩ := M1.out
                have g1 : W7.cell? ⟨q, 0, none⟩ = some (.int .i64 (i : Int)) := (cell_other (mo q n1 n2)).trans f1
                have g2 : W7.cell? ⟨q, 1, none⟩ = some (.int .i64 (j : Int)) := (cell_other (mo q n1 n2)).trans f2
                have g3 : q < W7.heap.size := by omega
                have HO7 := Lib.hid (row.moved HO6.out fun g _ _ _ hg _ => mo g (by omega) (by omega))
                have HR7 := Lib.hid mr
                have HC7 := Lib.hid mc
                have HB7 := Lib.hid (HB6.out.trans mb)
                have hsz7 : W5.heap.size ≤ W7.heap.size := by omega
                clear hW7 M1 M2 mr mc mo ms mb f1 f2 f3 f4 f5 f6 HO6 HB6 HMR HMC HOUT HQ
                have hbn7 := (Below.refl W7.heap.size W7).alloc (Nat.le_refl _) (.cells #[.int .i64 (i : Int), .int .i64 (j : Int)] 36)
                obtain ⟨O1, hO1⟩ : ∃ O1, O1 = out ++ [((i : Int), (j : Int))] := ⟨_, rfl⟩
                have HO1 := Lib.hid hO1
                have HC1 := Lib.hid (show out.length + [((i : Int), (j : Int))].length ≤ 100000000 by simp only [List.length_cons, List.length_nil]; omega)
                have HNEW := Lib.hid (show ijR.In (W7.alloc (.cells #[.int .i64 (i : Int), .int .i64 (j : Int)] 36)) (some ⟨W7.heap.size, 0, none⟩) [((i : Int), (j : Int))] from Rec.In.one W7 36 _ trivial)
                have HRN := Lib.hid (HO7.out.below hbn7)
                have HR8 := Lib.hid (HR7.out.below hbn7)
                have HC8 := Lib.hid (HC7.out.below hbn7)
                have HB8 := Lib.hid (HB7.out.trans (hbn7.mono HB7.out.size))
                have HSZ := Lib.hid (Nat.le_trans hsz7 hbn7.size)
                clear hO1 hbn7
                go_wp2_with (at_builtin; refine Rec.wpList_app ij32 rfl _ _ rfl W5.heap.size _ out [((i : Int), (j : Int))] O1 HO1.out rfl HRN.out _ 1 rfl HNEW.out (fun e => by cases e) HC1.out HSZ.out ?_)
                rintro v' w2 ho2 _ hb2
                have HO2 := Lib.hid ho2
                have HR9 := Lib.hid (row.moved HR8.out fun g _ _ he _ _ => by simp at he; exact hb2.block g (by omega))
                have HC9 := Lib.hid (row.moved HC8.out fun g _ _ he _ _ => by simp at he; exact hb2.block g (by omega))
                have HB9 := Lib.hid (HB8.out.trans (hb2.mono HB5.out.size))
                have HSZ9 := Lib.hid (Nat.le_trans HSZ.out hb2.size)
                clear ho2 hb2 g1 g2
                go_wp2
                go_roundg (gk - 1)
                case measure => have := HG.out; omega
                case rel => exact ⟨k + 1, (R.set i true, C.set j true, O1), by have := HG.out; omega, by go_num, by rw [HGS.out, ← HSS.out, HST.out, HO1.out]; simp, HR9.out, HC9.out, HO2.out, HB9.out, HSZ9.out⟩
          · have hkE : k = SP.length := by have := HG.out; omega
            go_wp2
            go_ret
            have hS := HSS.out
            rw [hkE, List.take_length] at hS
            have hm : out = matchL rows least := by
              unfold matchL
              rw [← HO.out, ← HSP.out, ← HC.out, ← hS]
            refine ⟨_, rfl, ?_, HB1.out.trans (HBW.out.mono HB1.out.size)⟩
            rw [← hm]
            exact HOUT.out.base (Nat.le_trans HB1.out.size HB5.out.size)
      · obtain ⟨W5, hW5⟩ : ∃ W5, W5 = ((w1.alloc (Obj.cells (madeCells #[Value.bool false] c) 4)).alloc (Obj.cells (madeCells #[Value.bool false] rows.length) 4)).drew := ⟨_, rfl⟩
        have hbr : W5.heap[w1.heap.size + 1]? = some (Obj.cells (madeCells #[Value.bool false] rows.length) 4) := by rw [hW5]; exact by have := (MapKept.heap_alloc (w1.alloc (Obj.cells (madeCells #[Value.bool false] c) 4)) (Obj.cells (madeCells #[Value.bool false] rows.length) 4)).1; simp only [World.size_alloc] at this; exact this
        have hbc : W5.heap[w1.heap.size]? = some (Obj.cells (madeCells #[Value.bool false] c) 4) := by rw [hW5]; exact (Below.heap_alloc (w1.alloc (Obj.cells (madeCells #[Value.bool false] c) 4)) (Obj.cells (madeCells #[Value.bool false] rows.length) 4) w1.heap.size (by simp)).trans (MapKept.heap_alloc w1 _).1
        have hs5 : W5.heap.size = w1.heap.size + 1 + 1 := by rw [hW5]; simp
        have hb5 : Below w1.heap.size w1 W5 := by rw [hW5]; exact ((((Below.refl _ w1).alloc (Nat.le_refl _) _).alloc (by simp) _).drew)
        obtain ⟨gr, hgr⟩ : ∃ gr, gr = w1.heap.size + 1 := ⟨_, rfl⟩
        obtain ⟨gc, hgc⟩ : ∃ gc, gc = w1.heap.size := ⟨_, rfl⟩
        have hne : gr ≠ gc := by omega
        have hgr0 : w1.heap.size ≤ gr := by omega
        have hgc0 : w1.heap.size ≤ gc := by omega
        have hgr5 : gr < W5.heap.size := by omega
        have hgc5 : gc < W5.heap.size := by omega
        rw [← hW5]
        rw [← hgr, ← hgc]
        rw [← hgr] at hbr
        rw [← hgc] at hbc
        clear hW5 hgr hgc hs5
        have HBR := Lib.hid (bools_new w1.heap.size hgr0 hrows hbr)
        have HBC := Lib.hid (bools_new w1.heap.size hgc0 hcols hbc)
        have HB5 := Lib.hid hb5
        clear hbr hbc hb5
        go_wp2_with fail
        go_loopg [13, 66] SP.length (fun g v13 v66 wr => ∃ (k : Nat) (S : List Bool × List Bool × List (Int × Int)), g + k = SP.length ∧ v66 = .int .i64 k ∧ S = gRun rows.length c (SP.take k) ∧ boolR.row 4 w1.heap.size S.1 (.slice (some ⟨gr, 0, none⟩) rows.length rows.length) wr ∧ boolR.row 4 w1.heap.size S.2.1 (.slice (some ⟨gc, 0, none⟩) c c) wr ∧ ijR.row 36 W5.heap.size S.2.2 v13 wr ∧ Below w1.heap.size w1 wr ∧ W5.heap.size ≤ wr.heap.size)
        case atStart => exact ⟨0, _, by omega, rfl, rfl, HBR.out, HBC.out, Rec.row.nil, HB5.out, Nat.le_refl _⟩
        case round =>
          obtain ⟨k, S, hg, rfl, hS, hmr, hmc, hout, hbw, hsz⟩ := hrel
          obtain ⟨R, C, out⟩ := S
          simp only at hmr hmc hout
          have HG := Lib.hid hg
          have HSS := Lib.hid hS
          have HMR := Lib.hid hmr
          have HMC := Lib.hid hmc
          have HOUT := Lib.hid hout
          have HBW := Lib.hid hbw
          have hlR : R.length = rows.length := by have := (gRun_len rows.length c (SP.take k)).1; rw [← hS] at this; exact this
          have hlC : C.length = c := by have := (gRun_len rows.length c (SP.take k)).2.1; rw [← hS] at this; exact this
          have hlO : out.length ≤ 900 := by
            have := (gRun_len rows.length c (SP.take k)).2.2
            rw [← hS, List.length_take] at this
            simp only at this
            omega
          clear hg hS hmr hmc hout hbw
          by_cases hk : k < SP.length
          · obtain ⟨p, hp⟩ : ∃ p, SP[k]? = some p := ⟨_, List.getElem?_eq_getElem hk⟩
            have hpo : p ∈ allPs least rows rows.length := by rw [← HO.out]; exact (List.mergeSort_perm _ _).mem_iff.1 (by have := List.mem_of_getElem? hp; rw [HSP.out] at this; exact this)
            obtain ⟨i, j, h1, h2, hi, hj⟩ := allPs_mem least rows p hpo
            rw [← HC.out] at hj
            obtain ⟨pi, pj, px⟩ := p
            simp only at h1 h2
            subst h1 h2
            have HGS := Lib.hid (gRun_succ rows.length c SP k _ hp)
            rcases HIN5.out.2 with h | ⟨b5, o5, rfl, hlt5, hc5'⟩
            · rw [h] at hk; simp at hk
            obtain ⟨e1, e2⟩ := (hc5' k _ hp).below HBW.out
            change fits wr ⟨b5, o5 + k * 3, none⟩ 3 at e1
            change aggAt wr ⟨b5, o5 + k * 3, none⟩ 3 = #[.int .i64 i, .int .i64 j, .float .f64 px] at e2
            clear hc5' hpo hp
            have hkz : (k : Int) < SP.length := by omega
            obtain ⟨X, hX⟩ : ∃ X, X = (Obj.cells #[.int .i64 (i : Int), .int .i64 (j : Int), .float .f64 px] 55) := ⟨_, rfl⟩
            have HBN := Lib.hid ((Below.refl wr.heap.size wr).alloc (Nat.le_refl _) X)
            have hi' : i < R.length := by omega
            have hj' : j < C.length := by omega
            have e3 := bool_cell hi' HMR.out
            have e4 := bool_cell hj' HMC.out
            have l3 : gr < wr.heap.size := by omega
            have l4 : gc < wr.heap.size := by omega
            have i3 : (i : Int) < rows.length := by omega
            have i4 : (j : Int) < c := by omega
            obtain ⟨rb, hrb⟩ : ∃ rb, rb = R.getD i false := ⟨_, rfl⟩
            obtain ⟨cb, hcb⟩ : ∃ cb, cb = C.getD j false := ⟨_, rfl⟩
            rw [← hrb] at e3
            rw [← hcb] at e4
            have HST := Lib.hid (show gStep (R, C, out) ((i : Int), (j : Int), px) = if rb = false ∧ cb = false then (R.set i true, C.set j true, out ++ [((i : Int), (j : Int))]) else (R, C, out) by
              simp only [gStep, Int.toNat_natCast, ← hrb, ← hcb])
            have HX := Lib.hid hX
            clear hrb hcb hX
            cases rb with
            | true =>
              go_wp2
              rw [← HX.out]
              go_roundg (gk - 1)
              case measure => have := HG.out; omega
              case rel => exact ⟨k + 1, (R, C, out), by have := HG.out; omega, by go_num, by rw [HGS.out, ← HSS.out, HST.out]; simp, HMR.out.below HBN.out, HMC.out.below HBN.out, HOUT.out.below HBN.out, HBW.out.trans (HBN.out.mono HBW.out.size), Nat.le_trans hsz HBN.out.size⟩
            | false =>
              cases cb with
              | true =>
                go_wp2
                rw [← HX.out]
                go_roundg (gk - 1)
                case measure => have := HG.out; omega
                case rel => exact ⟨k + 1, (R, C, out), by have := HG.out; omega, by go_num, by rw [HGS.out, ← HSS.out, HST.out]; simp, HMR.out.below HBN.out, HMC.out.below HBN.out, HOUT.out.below HBN.out, HBW.out.trans (HBN.out.mono HBW.out.size), Nat.le_trans hsz HBN.out.size⟩
              | false =>
                obtain ⟨W6, hW6⟩ : ∃ W6, W6 = wr.alloc X := ⟨_, rfl⟩
                have hq : W6.heap[wr.heap.size]? = some X := by rw [hW6]; exact (MapKept.heap_alloc wr X).1
                obtain ⟨q, hqe⟩ : ∃ q, q = wr.heap.size := ⟨_, rfl⟩
                have hs6 : W6.heap.size = wr.heap.size + 1 := by rw [hW6]; simp
                rw [← hW6] at HBN
                rw [← hqe] at hq hs6
                rw [HX.out] at hq
                have f1 : W6.cell? ⟨q, 0, none⟩ = some (.int .i64 (i : Int)) := by rw [Lib.cell_of_heap hq]; rfl
                have f2 : W6.cell? ⟨q, 1, none⟩ = some (.int .i64 (j : Int)) := by rw [Lib.cell_of_heap hq]; rfl
                have hmr6 := HMR.out.below HBN.out
                have hmc6 := HMC.out.below HBN.out
                have f3 : W6.cell? ⟨gr, i, none⟩ = some (.bool false) := (HBN.out.cell (p := ⟨gr, i, none⟩) l3).trans e3
                have f4 : W6.cell? ⟨gc, j, none⟩ = some (.bool false) := (HBN.out.cell (p := ⟨gc, j, none⟩) l4).trans e4
                have f5 := bool_frozen hi' hmr6
                have f6 := bool_frozen hj' hmc6
                have n1 : q ≠ gr := by omega
                have n2 : q ≠ gc := by omega
                have n3 : gr ≠ q := by omega
                have n4 : gc ≠ q := by omega
                have n5 : gc ≠ gr := by omega
                have HQ := Lib.hid hq
                have M1 := Lib.hid (marks_set hne hmr6 hmc6 hi' hj')
                have M2 := Lib.hid (marks_set n5 hmc6 hmr6 hj' hi')
                have HO6 := Lib.hid (HOUT.out.below HBN.out)
                have HB6 := Lib.hid (HBW.out.trans (HBN.out.mono HBW.out.size))
                have hsz6 : W5.heap.size ≤ W6.heap.size := by omega
                have hq5 : W5.heap.size ≤ q := by omega
                clear hq hmr6 hmc6
                go_upto_region 21 with fail
                rw [← HX.out, ← hW6, ← hqe]
                clear hW6 hqe HBN e1 e2 e3 e4 l3 l4
                go_big_region
                obtain ⟨W7, hW7⟩ : ∃ W7, W7 = ((W6.setCell ⟨gr, i, none⟩ (.bool true)).setCell ⟨gc, j, none⟩ (.bool true)).drew := ⟨_, rfl⟩
                rw [← hW7]
                rw [← hW7] at M1
                obtain ⟨mr, mc, mo, ms, mb⟩ := M1.out
                have g1 : W7.cell? ⟨q, 0, none⟩ = some (.int .i64 (i : Int)) := (cell_other (mo q n1 n2)).trans f1
                have g2 : W7.cell? ⟨q, 1, none⟩ = some (.int .i64 (j : Int)) := (cell_other (mo q n1 n2)).trans f2
                have g3 : q < W7.heap.size := by omega
                have HO7 := Lib.hid (row.moved HO6.out fun g _ _ _ hg _ => mo g (by omega) (by omega))
                have HR7 := Lib.hid mr
                have HC7 := Lib.hid mc
                have HB7 := Lib.hid (HB6.out.trans mb)
                have hsz7 : W5.heap.size ≤ W7.heap.size := by omega
                clear hW7 M1 M2 mr mc mo ms mb f1 f2 f3 f4 f5 f6 HO6 HB6 HMR HMC HOUT HQ
                have hbn7 := (Below.refl W7.heap.size W7).alloc (Nat.le_refl _) (.cells #[.int .i64 (i : Int), .int .i64 (j : Int)] 36)
                obtain ⟨O1, hO1⟩ : ∃ O1, O1 = out ++ [((i : Int), (j : Int))] := ⟨_, rfl⟩
                have HO1 := Lib.hid hO1
                have HC1 := Lib.hid (show out.length + [((i : Int), (j : Int))].length ≤ 100000000 by simp only [List.length_cons, List.length_nil]; omega)
                have HNEW := Lib.hid (show ijR.In (W7.alloc (.cells #[.int .i64 (i : Int), .int .i64 (j : Int)] 36)) (some ⟨W7.heap.size, 0, none⟩) [((i : Int), (j : Int))] from Rec.In.one W7 36 _ trivial)
                have HRN := Lib.hid (HO7.out.below hbn7)
                have HR8 := Lib.hid (HR7.out.below hbn7)
                have HC8 := Lib.hid (HC7.out.below hbn7)
                have HB8 := Lib.hid (HB7.out.trans (hbn7.mono HB7.out.size))
                have HSZ := Lib.hid (Nat.le_trans hsz7 hbn7.size)
                clear hO1 hbn7
                go_wp2_with (at_builtin; refine Rec.wpList_app ij32 rfl _ _ rfl W5.heap.size _ out [((i : Int), (j : Int))] O1 HO1.out rfl HRN.out _ 1 rfl HNEW.out (fun e => by cases e) HC1.out HSZ.out ?_)
                rintro v' w2 ho2 _ hb2
                have HO2 := Lib.hid ho2
                have HR9 := Lib.hid (row.moved HR8.out fun g _ _ he _ _ => by simp at he; exact hb2.block g (by omega))
                have HC9 := Lib.hid (row.moved HC8.out fun g _ _ he _ _ => by simp at he; exact hb2.block g (by omega))
                have HB9 := Lib.hid (HB8.out.trans (hb2.mono HB5.out.size))
                have HSZ9 := Lib.hid (Nat.le_trans HSZ.out hb2.size)
                clear ho2 hb2 g1 g2
                go_wp2
                go_roundg (gk - 1)
                case measure => have := HG.out; omega
                case rel => exact ⟨k + 1, (R.set i true, C.set j true, O1), by have := HG.out; omega, by go_num, by rw [HGS.out, ← HSS.out, HST.out, HO1.out]; simp, HR9.out, HC9.out, HO2.out, HB9.out, HSZ9.out⟩
          · have hkE : k = SP.length := by have := HG.out; omega
            go_wp2
            go_ret
            have hS := HSS.out
            rw [hkE, List.take_length] at hS
            have hm : out = matchL rows least := by
              unfold matchL
              rw [← HO.out, ← HSP.out, ← HC.out, ← hS]
            refine ⟨_, rfl, ?_, HB1.out.trans (HBW.out.mono HB1.out.size)⟩
            rw [← hm]
            exact HOUT.out.base (Nat.le_trans HB1.out.size HB5.out.size)
end Go.Proofs.Ytkapidcgonjbaaa
