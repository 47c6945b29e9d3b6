/- The reference's Match: the walk. -/
import Derived.Test.YtkapidcgonjbaaaPk
import Derived.Deep.DeepCutAuto
namespace Go.Proofs.Ytkapidcgonjbaaa
open Go.RowKit
open Go.Sort hiding Below
set_option linter.unusedVariables false

def rowV : Option Pr → Int | none => -1 | some p => p.1
def colV : Option Pr → Int | none => -1 | some p => p.2.1
/-- What the best so far stands for: in range, its number there. -/
def BOk (rows : List (List Nat)) : Option Pr → Prop
  | none => True
  | some p => ∃ i k : Nat, p.1 = i ∧ p.2.1 = k ∧ ∃ r, rows[i]? = some r ∧ k < r.length ∧ p.2.2 = r.getD k 0
theorem bestOf_mem (out : List (Int × Int)) : ∀ (PS : List Pr) (b : Option Pr), (∀ p, b = some p → p ∈ PS) → ∀ (PT : List Pr) (p : Pr), PT.foldl (best1 out) b = some p → p ∈ PS ++ PT
  | PS, b, hb, [], p, h => by simpa using hb p h
  | PS, b, hb, q :: PT, p, h => by
    have := bestOf_mem out (PS ++ [q]) (best1 out b q) (fun x hx => by
      unfold best1 at hx
      split at hx
      · cases b with
        | none => simp at hx; subst hx; simp
        | some y =>
          simp only at hx
          split at hx
          · cases hx; simp
          · cases hx; have := hb _ rfl; simp [this]
      · have := hb x hx; simp [this]) PT p h
    simpa using this
theorem bestOf_ok (least : Nat) (rows : List (List Nat)) (out : List (Int × Int)) (n : Nat) (hn : n ≤ rows.length) (PS : List Pr) (h : ∀ p ∈ PS, p ∈ allPs least rows rows.length) : BOk rows (bestOf PS out) := by
  cases hb : bestOf PS out with
  | none => trivial
  | some p =>
    have hm := bestOf_mem out [] none (fun p h => by cases h) PS p hb
    obtain ⟨i, k, e1, e2, r, h1, h2, h3, _, _⟩ := allPs_told least rows p (h p (by simpa using hm))
    exact ⟨i, k, e1, e2, r, h1, h2, h3⟩
theorem allPs_sub (least : Nat) (rows : List (List Nat)) (n : Nat) (hn : n ≤ rows.length) : ∀ p ∈ allPs least rows n, p ∈ allPs least rows rows.length := by
  intro p hp
  unfold allPs at *
  obtain ⟨i, hi, hp⟩ := List.mem_flatMap.1 hp
  exact List.mem_flatMap.2 ⟨i, List.mem_range.2 (by have := List.mem_range.1 hi; omega), hp⟩
theorem rowPs_sub (least : Nat) (rows : List (List Nat)) (i : Nat) (r : List Nat) (hr : rows[i]? = some r) (n : Nat) (hn : n ≤ r.length) : ∀ p ∈ rowPs least i r n, p ∈ allPs least rows rows.length := by
  intro p hp
  have hi := (List.getElem?_eq_some_iff.1 hr).1
  have hg : rows.getD i [] = r := by rw [List.getD_eq_getElem?_getD, hr]; rfl
  unfold allPs
  refine List.mem_flatMap.2 ⟨i, List.mem_range.2 hi, ?_⟩
  rw [hg]
  unfold rowPs at *
  obtain ⟨k, hk, hp⟩ := List.mem_filterMap.1 hp
  exact List.mem_filterMap.2 ⟨k, List.mem_range.2 (by have := List.mem_range.1 hk; omega), hp⟩
theorem freeP_snoc (O : List (Int × Int)) (j : Nat) (o : Int × Int) (p : Pr) (h : O[j]? = some o) : freeP (O.take (j + 1)) p = (freeP (O.take j) p && (!(o.1 == p.1) && !(o.2 == p.2.1))) := by
  rw [List.take_add_one, h]; exact freeP_app _ _ _
theorem bestOf_app (PS PT : List Pr) (out : List (Int × Int)) : bestOf (PS ++ PT) out = PT.foldl (best1 out) (bestOf PS out) := by unfold bestOf; rw [List.foldl_append]
/-- One more number looked at. -/
theorem best_step (least i : Nat) (r : List Nat) (k : Nat) (PS : List Pr) (out : List (Int × Int)) :
    bestOf (PS ++ rowPs least i r (k + 1)) out = if (tells least (r.getD k 0) && freeP out ((i : Int), (k : Int), r.getD k 0)) = true then best1 out (bestOf (PS ++ rowPs least i r k) out) ((i : Int), (k : Int), r.getD k 0) else bestOf (PS ++ rowPs least i r k) out := by
  rw [rowPs_succ, ← List.append_assoc]
  cases ht : tells least (r.getD k 0) with
  | false => simp
  | true =>
    simp only [if_true, Bool.true_and]
    rw [bestOf_snoc]
    split
    · rfl
    · rename_i h; unfold best1; rw [if_neg h]

set_option maxHeartbeats 8000000 in
set_option maxRecDepth 100000 in
theorem rmatch_any (am : Option Addr) (cap : Nat) (rows : List (List Nat)) (least : Nat) (hl : least < 18446744073709551616) (w : World) (hm : MatW w am rows) (hsm : small rows) :
    Calls Try.prog 21 #[.slice am rows.length cap, .float .f64 least] w fun e w' => ∃ v, e = .returned v ∧ ijR.row 36 w.heap.size (matchL rows least) v w' ∧ Below w.heap.size w w' := by
  have HM := Lib.hid hm
  have HS := Lib.hid hsm
  have HLE := Lib.hid hl
  have hrl : rows.length ≤ 30 := hsm.1
  have HALL := Lib.hid (show ∀ r ∈ rows, ∀ x ∈ r, x < 18446744073709551616 from fun r hr x hx => by
    obtain ⟨i, hi, rfl⟩ := List.getElem_of_mem hr
    obtain ⟨ab, aoff, rfl⟩ := hm.addr hi
    obtain ⟨_, a, rc, e0, _, _, hin, _⟩ := hm.row i _ (List.getElem?_eq_getElem hi)
    exact hin.1 x hx)
  clear hm hsm hl
  have HSL := Lib.hid (show (matchL rows least).length ≤ 900 by
    rw [matchL_greedy]
    have h1 := (greedy_len (sortPs (allPs least rows rows.length)) []).2
    have h2 := allPs_length least rows HS.out.2 rows.length
    have h3 : (sortPs (allPs least rows rows.length)).length = (allPs least rows rows.length).length := List.length_mergeSort _
    simp at h1; omega)
  obtain ⟨M, hM⟩ : ∃ M, M = matchL rows least := ⟨_, rfl⟩
  rw [← hM] at HSL ⊢
  have HMM := Lib.hid hM
  clear hM
  cases n2 : isN least with
  | true =>
    have HF := Lib.hid (show M = [] by
      have : allPs least rows rows.length = [] := by
        rw [List.eq_nil_iff_forall_not_mem]
        intro p hp
        unfold allPs rowPs at hp
        obtain ⟨i, _, hp⟩ := List.mem_flatMap.1 hp
        obtain ⟨k, _, hp⟩ := List.mem_filterMap.1 hp
        unfold tells at hp
        rw [n2] at hp
        simp at hp
      rw [HMM.out, matchL_greedy, this]
      simp [sortPs, greedy])
    have H2 := Lib.hid n2
    clear n2
    go_enter Try.func21, Try.ntmps21
    go_wp2_with fail
    refine (rnan_any least _).mono ?_
    rintro e w1 ⟨rfl, rfl⟩
    rw [H2.out]
    go_wp2
    go_ret
    exact ⟨_, rfl, by rw [HF.out]; exact Rec.row.nil, Below.refl _ _⟩
  | false =>
  have H2 := Lib.hid n2
  clear n2
  go_enter Try.func21, Try.ntmps21
  go_wp2_with fail
  refine (rnan_any least _).mono ?_
  rintro e w1 ⟨rfl, rfl⟩
  rw [H2.out]
  go_wp2_with fail
  go_loopg [5] (M.length + 1) (fun g v5 wr => ∃ (O : List (Int × Int)), g + O.length = M.length + 1 ∧ greedy (sortPs (allPs least rows rows.length)) O = M ∧ ijR.row 36 w.heap.size O v5 wr ∧ Below w.heap.size w wr)
  case atStart => exact ⟨[], by simp, by rw [HMM.out, matchL_greedy], Rec.row.nil, Below.refl _ _⟩
  case round =>
    obtain ⟨O, hg, hgr, hrow, hb⟩ := hrel
    have HGL := Lib.hid (show O.length ≤ M.length by have := (greedy_len (sortPs (allPs least rows rows.length)) O).1; rw [hgr] at this; exact this)
    have hol : O.length ≤ 900 := by have := HGL.out; have := HSL.out; omega
    have HG := Lib.hid hg
    have HGR := Lib.hid hgr
    obtain ⟨oa, oc, rfl, hoc, hom, hoin, hon⟩ := hrow.sl
    have HR := Lib.hid hrow
    have HOI := Lib.hid hoin
    have HB := Lib.hid hb
    clear hg hgr hrow hb hoc hom hoin hon
    obtain ⟨gk0, hgk0⟩ : ∃ g, g = gk := ⟨_, rfl⟩
    have HGK := Lib.hid hgk0
    clear hgk0
    obtain ⟨w5, hw5⟩ : ∃ w5, w5 = wr := ⟨_, rfl⟩
    rw [← hw5] at HR HOI HB ⊢
    clear hw5
    go_wp2_with fail
    go_loopg [6, 7, 8] rows.length (fun g v6 v7 v8 wx => ∃ (i : Nat) (b : Option Pr), g + i = rows.length ∧ v8 = .int .i64 i ∧ b = bestOf (allPs least rows i) O ∧ v6 = .int .i64 (rowV b) ∧ v7 = .int .i64 (colV b) ∧ w5 = wx)
    case atStart => exact ⟨0, none, by omega, rfl, rfl, rfl, rfl, rfl⟩
    case round =>
      obtain ⟨i, b, hg, rfl, hbb, rfl, rfl, rfl⟩ := hrel
      have HG2 := Lib.hid hg
      have HBB := Lib.hid hbb
      have HMW := Lib.hid (HM.out.below HB.out)
      clear hg hbb
      by_cases hi : i < rows.length
      · have hri : rows[i]? = some rows[i] := List.getElem?_eq_getElem hi
        obtain ⟨r, hr⟩ : ∃ r, r = rows[i] := ⟨_, rfl⟩
        rw [← hr] at hri
        have hr30 : r.length ≤ 30 := by rw [hr]; exact HS.out.2 _ (List.getElem_mem hi)
        obtain ⟨mb, off, rfl⟩ := HM.out.addr hi
        obtain ⟨hb0, a, rc, e0, hrc, hrm, hin, han⟩ := HMW.out.row i r hri
        have HRI := Lib.hid hri
        have HIN := Lib.hid hin
        have hiz : (i : Int) < rows.length := by omega
        have HNX := Lib.hid (show allPs least rows (i + 1) = allPs least rows i ++ rowPs least i r r.length by rw [allPs_succ, show rows.getD i [] = r by rw [List.getD_eq_getElem?_getD, hri]; rfl])
        clear hr hin hri han
        go_wp2_with fail
        go_loopg [6, 7, 9] r.length (fun g v6 v7 v9 wx => ∃ (k : Nat) (b : Option Pr), g + k = r.length ∧ v9 = .int .i64 k ∧ b = bestOf (allPs least rows i ++ rowPs least i r k) O ∧ v6 = .int .i64 (rowV b) ∧ v7 = .int .i64 (colV b) ∧ w5 = wx)
        case atStart => exact ⟨0, b, by omega, rfl, by rw [HBB.out]; simp [rowPs], rfl, rfl, rfl⟩
        case round =>
          obtain ⟨k, bb, hg, rfl, hbb, rfl, rfl, rfl⟩ := hrel
          have HG3 := Lib.hid hg
          have HB3 := Lib.hid hbb
          clear hg hbb
          by_cases hk : k < r.length
          · have hx : r[k]? = some (r.getD k 0) := by simp [List.getD_eq_getElem?_getD, hk]
            have HX := Lib.hid (HIN.out.1 _ (List.mem_of_getElem? hx))
            have HST := Lib.hid (best_step least i r k (allPs least rows i) O)
            have HBK := Lib.hid (show BOk rows bb by
              rw [HB3.out]
              refine bestOf_ok least rows O i (by omega) _ (fun p hp => ?_)
              rcases List.mem_append.1 hp with hp | hp
              · exact allPs_sub least rows i (by omega) p hp
              · exact rowPs_sub least rows i r HRI.out k (by omega) p hp)
            rw [← HB3.out] at HST
            rcases HIN.out.2 with h | ⟨b2, o2, rfl, hlt2, hc2⟩
            · subst h; simp at hk
            have e2 := flt_cell (hc2 k _ hx)
            have hkz : (k : Int) < r.length := by omega
            clear hc2 hx
            obtain ⟨x, hxe⟩ : ∃ x, x = r.getD k 0 := ⟨_, rfl⟩
            rw [← hxe] at e2 HX HST
            clear hxe
            go_upto_region 12 with fail
            go_cut [11] (fun v11 wx => v11 = .bool (tells least x) ∧ w5 = wx)
            case first =>
              go_wp2_with fail
              refine (rnan_any x _).mono ?_
              rintro e w1 ⟨rfl, rfl⟩
              cases n1 : isN x with
              | true =>
                have H1 := Lib.hid n1
                have HT := Lib.hid (show tells least x = false by simp [tells, n1])
                clear n1
                go_wp2_with fail
                go_meet
                exact ⟨by rw [HT.out], rfl⟩
              | false =>
                have H1 := Lib.hid n1
                have HT := Lib.hid (show tells least x = decide (0 ≤ fOrd x least) by simp [tells, n1, H2.out])
                clear n1
                go_wp2_with fail
                refine (rorder_any x least HX.out HLE.out _).mono ?_
                rintro e w1 ⟨rfl, rfl⟩
                go_wp2_with fail
                go_meet
                exact ⟨by rw [HT.out], rfl⟩
            case rest =>
              obtain ⟨rfl, rfl⟩ := hcut
              clear e2
              go_wp2_with fail
              go_loopg [11, 12] O.length (fun g v11 v12 wx => ∃ j : Nat, g + j = O.length ∧ v12 = .int .i64 j ∧ v11 = .bool (tells least x && freeP (O.take j) ((i : Int), (k : Int), x)) ∧ w5 = wx)
              case atStart => exact ⟨0, by omega, rfl, by simp [freeP], rfl⟩
              case round =>
                obtain ⟨j, hg, rfl, rfl, rfl⟩ := hrel
                have HG4 := Lib.hid hg
                clear hg
                by_cases hj : j < O.length
                · obtain ⟨⟨c, d⟩, ho⟩ : ∃ o, O[j]? = some o := ⟨_, List.getElem?_eq_getElem hj⟩
                  rcases HOI.out.2 with h | ⟨b3, o3, rfl, hlt3, hc3⟩
                  · rw [h] at hj; simp at hj
                  have hat := hc3 j _ ho
                  have f1 : w5.cell? ⟨b3, o3 + j * 2, none⟩ = some (.int .i64 c) := by
                    have := aggAt_get (j := 0) hat.1 (by decide); rw [hat.2] at this; simpa [ijR] using this
                  have f2 : w5.cell? ⟨b3, o3 + j * 2 + 1, none⟩ = some (.int .i64 d) := by
                    have := aggAt_get (j := 1) hat.1 (by decide); rw [hat.2] at this; simpa [ijR] using this
                  have HFS := Lib.hid (freeP_snoc O j (c, d) ((i : Int), (k : Int), x) ho)
                  have z1 : (j : Int) < O.length := by omega
                  clear hat hc3 ho
                  cases hB : (tells least x && freeP (O.take j) ((i : Int), (k : Int), x)) with
                  | false =>
                    have HBB2 := Lib.hid hB
                    clear hB
                    go_wp2
                    go_roundg (gk - 1)
                    case measure => have := HG4.out; omega
                    case rel => exact ⟨j + 1, by have := HG4.out; omega, by go_num, by rw [HFS.out, ← Bool.and_assoc, HBB2.out]; rfl, rfl⟩
                  | true =>
                    have HBB2 := Lib.hid hB
                    clear hB
                    by_cases h1 : c = (i : Int)
                    · have p1 : (c == (i : Int)) = true := by simpa using h1
                      have p2 : (c != (i : Int)) = false := by simpa using h1
                      have HP := Lib.hid p1
                      clear h1 p1
                      go_wp2
                      go_roundg (gk - 1)
                      case measure => have := HG4.out; omega
                      case rel => exact ⟨j + 1, by have := HG4.out; omega, by go_num, by rw [HFS.out, ← Bool.and_assoc, HBB2.out]; simp only [HP.out]; rfl, rfl⟩
                    · have p1 : (c == (i : Int)) = false := by simpa using h1
                      have p2 : (c != (i : Int)) = true := by simpa using h1
                      have HP := Lib.hid p1
                      clear h1 p1
                      go_wp2
                      go_roundg (gk - 1)
                      case measure => have := HG4.out; omega
                      case rel => exact ⟨j + 1, by have := HG4.out; omega, by go_num, by rw [HFS.out, ← Bool.and_assoc, HBB2.out]; simp only [HP.out]; rfl, rfl⟩
                · have hjE : j = O.length := by have := HG4.out; omega
                  rw [hjE, List.take_length]
                  clear hjE hj
                  cases hB : (tells least x && freeP O ((i : Int), (k : Int), x)) with
                  | false =>
                    have HBB2 := Lib.hid hB
                    clear hB
                    have HN := Lib.hid (show bb = bestOf (allPs least rows i ++ rowPs least i r (k + 1)) O by rw [HST.out, HBB2.out]; rfl)
                    go_wp2
                    go_roundg (r.length - (k + 1))
                    case measure => have := HG3.out; omega
                    case rel => exact ⟨k + 1, bb, by have := HG3.out; omega, by go_num, HN.out, rfl, rfl, rfl⟩
                  | true =>
                    have HBB2 := Lib.hid hB
                    have HFR := Lib.hid (show freeP O ((i : Int), (k : Int), x) = true by rw [Bool.and_eq_true] at hB; exact hB.2)
                    clear hB
                    cases bb with
                    | none =>
                      have HN := Lib.hid (show some ((i : Int), (k : Int), x) = bestOf (allPs least rows i ++ rowPs least i r (k + 1)) O by rw [HST.out, HBB2.out, if_pos rfl]; unfold best1; rw [if_pos HFR.out])
                      simp only [rowV, colV]
                      go_wp2
                      go_roundg (r.length - (k + 1))
                      case measure => have := HG3.out; omega
                      case rel => exact ⟨k + 1, _, by have := HG3.out; omega, by go_num, HN.out, rfl, rfl, rfl⟩
                    | some q =>
                      obtain ⟨qi, qk, hqi, hqk, qr, hqr, hql, hqv⟩ := HBK.out
                      obtain ⟨q0, q1, y⟩ := q
                      simp only at hqi hqk hqv
                      subst hqi hqk
                      have hqi0 : qi < rows.length := (List.getElem?_eq_some_iff.1 hqr).1
                      obtain ⟨hbq, qa, qc, e3, hqc, hqm, hqin, hqn⟩ := HMW.out.row qi qr hqr
                      rcases hqin.2 with h | ⟨b4, o4, rfl, hlt4, hc4⟩
                      · subst h; simp at hql
                      have hy : qr[qk]? = some (qr.getD qk 0) := by simp [List.getD_eq_getElem?_getD, hql]
                      have e4 := flt_cell (hc4 qk _ hy)
                      have HY := Lib.hid (show y < 18446744073709551616 by rw [hqv]; exact hqin.1 _ (List.mem_of_getElem? hy))
                      rw [← hqv] at e4
                      have z2 : (qi : Int) < rows.length := by omega
                      have z3 : (qk : Int) < qr.length := by omega
                      clear hqin hqn hc4 hy hqv hqr
                      have HORD := Lib.hid (show bestOf (allPs least rows i ++ rowPs least i r (k + 1)) O = if 0 < fOrd x y then some ((i : Int), (k : Int), x) else some ((qi : Int), (qk : Int), y) by
                        rw [HST.out, HBB2.out, if_pos rfl]; unfold best1; rw [if_pos HFR.out])
                      clear HBK HST HB3
                      simp only [rowV, colV]
                      go_wp2_with fail
                      refine (rorder_any x y HX.out HY.out _).mono ?_
                      rintro e w1 ⟨rfl, rfl⟩
                      clear e3 e4
                      obtain ⟨t, ht⟩ : ∃ t, t = fOrd x y := ⟨_, rfl⟩
                      rw [← ht] at HORD ⊢
                      clear ht
                      by_cases h0 : 0 < t
                      · have HN := Lib.hid (show some ((i : Int), (k : Int), x) = bestOf (allPs least rows i ++ rowPs least i r (k + 1)) O by rw [HORD.out, if_pos h0])
                        go_wp2
                        go_roundg (r.length - (k + 1))
                        case measure => have := HG3.out; omega
                        case rel => exact ⟨k + 1, _, by have := HG3.out; omega, by go_num, HN.out, rfl, rfl, rfl⟩
                      · have HN := Lib.hid (show some ((qi : Int), (qk : Int), y) = bestOf (allPs least rows i ++ rowPs least i r (k + 1)) O by rw [HORD.out, if_neg h0])
                        go_wp2
                        go_roundg (r.length - (k + 1))
                        case measure => have := HG3.out; omega
                        case rel => exact ⟨k + 1, _, by have := HG3.out; omega, by go_num, HN.out, rfl, rfl, rfl⟩
          · have HKE := Lib.hid (show k = r.length by have := HG3.out; omega)
            go_wp2
            go_roundg (rows.length - (i + 1))
            case measure => have := HG2.out; omega
            case rel => exact ⟨i + 1, bb, by have := HG2.out; omega, by go_num, by rw [HNX.out, HB3.out, HKE.out], rfl, rfl, rfl⟩
      · have HIE := Lib.hid (show i = rows.length by have := HG2.out; omega)
        have HRD := Lib.hid (greedy_round rows least O HALL.out)
        cases b with
        | none =>
          simp only [rowV, colV]
          have HDONE := Lib.hid (show O = M by
            have h1 := HRD.out
            rw [← HIE.out, ← HBB.out] at h1
            rw [← HGR.out, ← HIE.out, h1])
          go_wp2
          go_ret
          exact ⟨_, rfl, by rw [← HDONE.out]; exact HR.out, HB.out⟩
        | some p =>
          obtain ⟨pi, pk, px⟩ := p
          have HOKB := Lib.hid (show BOk rows (some (pi, pk, px)) by
            rw [HBB.out, HIE.out]; exact bestOf_ok least rows O rows.length (by omega) _ (fun p hp => hp))
          obtain ⟨qi, qk, hqi, hqk, _⟩ := HOKB.out
          simp only at hqi hqk
          subst hqi hqk
          have HNXT := Lib.hid (show greedy (sortPs (allPs least rows rows.length)) (O ++ [((qi : Int), (qk : Int))]) = M by
            have h1 := HRD.out
            rw [← HIE.out, ← HBB.out] at h1
            rw [← HGR.out, ← HIE.out, h1])
          have HLT := Lib.hid (show O.length + 1 ≤ M.length by
            have := (greedy_len (sortPs (allPs least rows rows.length)) (O ++ [((qi : Int), (qk : Int))])).1
            rw [HNXT.out] at this; simpa using this)
          simp only [rowV, colV]
          have hbn := (Below.refl w5.heap.size w5).alloc (Nat.le_refl _) (.cells #[.int .i64 (qi : Int), .int .i64 (qk : Int)] 36)
          have HNEW := Lib.hid (show ijR.In (w5.alloc (.cells #[.int .i64 (qi : Int), .int .i64 (qk : Int)] 36)) (some ⟨w5.heap.size, 0, none⟩) [((qi : Int), (qk : Int))] from Rec.In.one w5 36 _ trivial)
          have HRN := Lib.hid (HR.out.below hbn)
          have HBN := Lib.hid (HB.out.trans (hbn.mono HB.out.size))
          have HC := Lib.hid (show O.length + [((qi : Int), (qk : Int))].length ≤ 100000000 by simp only [List.length_cons, List.length_nil]; omega)
          obtain ⟨O1, hO1⟩ : ∃ O1, O1 = O ++ [((qi : Int), (qk : Int))] := ⟨_, rfl⟩
          have HO1 := Lib.hid hO1
          clear hbn hO1
          go_wp2_with (at_builtin; refine Rec.wpList_app ij32 rfl _ _ rfl w.heap.size _ O [((qi : Int), (qk : Int))] O1 HO1.out rfl HRN.out _ 1 rfl HNEW.out (fun e => by cases e) HC.out HBN.out.size ?_)
          rintro v' w2 ho2 _ hb2
          have HO2 := Lib.hid ho2
          have HB2 := Lib.hid (HBN.out.trans hb2)
          clear ho2 hb2
          go_wp2
          go_roundg (gk0 - 1)
          case measure => rw [HGK.out]; have := HG.out; have := HLT.out; omega
          case rel => exact ⟨O1, by rw [HO1.out, List.length_append, HGK.out]; have := HG.out; have := HLT.out; simp; omega, by rw [HO1.out]; exact HNXT.out, HO2.out, HB2.out⟩
end Go.Proofs.Ytkapidcgonjbaaa
