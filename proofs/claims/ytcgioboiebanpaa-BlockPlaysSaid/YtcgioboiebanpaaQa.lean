/- Acts on a document. -/
import Derived.Test.YtcgioboiebanpaaOj
namespace Go.Proofs.Ytcgioboiebanpaa
open Go.RowKit Go.Maps
set_option linter.unusedVariables false

/-- Plain: what kind an act is, and what acts do. -/
def kd (x : AV) : Int := Int.tmod (Int.tmod x.1 5 + 5) 5
def actM (rs : List MR) (x : AV) : List MR :=
  if kd x = 0 ∨ kd x = 1 then insL rs x.2.1 x.2.2.1 (decide (kd x = 1)) x.2.2.2.1.data.toList else if kd x = 2 then delR rs x.2.1 x.2.2.2.2 else rs
def actsM (rs : List MR) (l : List AV) : List MR := l.foldl actM rs
def doE (rs : List MR) (x : AV) : Int := if kd x = 2 then delE rs x.2.1 x.2.2.2.2 else insE rs x.2.1 x.2.2.1 (decide (kd x = 1)) x.2.2.2.1.data.toList
def doR (rs : List MR) (x : AV) : List MR := if kd x = 2 then delR rs x.2.1 x.2.2.2.2 else insL rs x.2.1 x.2.2.1 (decide (kd x = 1)) x.2.2.2.1.data.toList
theorem kd_wrap (k : Int) : IntKind.i64.wrap (Int.tmod k 5) = Int.tmod k 5 ∧ IntKind.i64.wrap (Int.tmod k 5 + 5) = Int.tmod k 5 + 5 ∧ IntKind.i64.wrap (Int.tmod (Int.tmod k 5 + 5) 5) = Int.tmod (Int.tmod k 5 + 5) 5 ∧ 0 ≤ Int.tmod (Int.tmod k 5 + 5) 5 ∧ Int.tmod (Int.tmod k 5 + 5) 5 < 5 := by
  have h1 : -5 < Int.tmod k 5 ∧ Int.tmod k 5 < 5 := by
    rcases Int.le_total 0 k with h | h
    · rw [Int.tmod_eq_emod_of_nonneg h]; omega
    · have : Int.tmod k 5 = -(Int.tmod (-k) 5) := by rw [Int.neg_tmod]; omega
      rw [this, Int.tmod_eq_emod_of_nonneg (by omega)]; omega
  have h2 : Int.tmod (Int.tmod k 5 + 5) 5 = (Int.tmod k 5 + 5) % 5 := Int.tmod_eq_emod_of_nonneg (by omega)
  refine ⟨IntWalk.i64_in _ (by omega), IntWalk.i64_in _ (by omega), IntWalk.i64_in _ (by omega), by omega, by omega⟩
theorem insN_le (rs : List MR) (k a : KV) (first : Bool) (s : List UInt8) : insN rs k a first s ≤ s.length := by
  have := runesL_len s
  unfold insN
  split <;> omega
theorem actM_facts {rs : List MR} (h : ∀ r ∈ rs, idxOk r) (x : AV) : (∀ r ∈ actM rs x, idxOk r) ∧ tot (actM rs x) ≤ tot rs + x.2.2.2.1.size := by
  have hs : x.2.2.2.1.data.toList.length = x.2.2.2.1.size := Array.length_toList
  unfold actM
  split
  · have := insL_facts h x.2.1 x.2.2.1 (decide (kd x = 1)) x.2.2.2.1.data.toList
    have h2 := insN_le rs x.2.1 x.2.2.1 (decide (kd x = 1)) x.2.2.2.1.data.toList
    exact ⟨this.1, by omega⟩
  · split
    · have := delL_facts h x.2.1 x.2.2.2.2
      exact ⟨this.1, by omega⟩
    · exact ⟨h, by omega⟩
theorem doR_facts {rs : List MR} (h : ∀ r ∈ rs, idxOk r) (x : AV) : (∀ r ∈ doR rs x, idxOk r) ∧ tot (doR rs x) ≤ tot rs + x.2.2.2.1.size := by
  have hs : x.2.2.2.1.data.toList.length = x.2.2.2.1.size := Array.length_toList
  unfold doR
  split
  · have := delL_facts h x.2.1 x.2.2.2.2
    exact ⟨this.1, by omega⟩
  · have := insL_facts h x.2.1 x.2.2.1 (decide (kd x = 1)) x.2.2.2.1.data.toList
    have h2 := insN_le rs x.2.1 x.2.2.1 (decide (kd x = 1)) x.2.2.2.1.data.toList
    exact ⟨this.1, by omega⟩
theorem actsM_facts : ∀ (l : List AV) (rs : List MR), (∀ r ∈ rs, idxOk r) → (∀ x ∈ l, x.2.2.2.1.size ≤ 20) → (∀ r ∈ actsM rs l, idxOk r) ∧ tot (actsM rs l) ≤ tot rs + 20 * l.length
  | [], rs, h, _ => ⟨h, by simp [actsM]⟩
  | x :: l, rs, h, hl => by
    have h1 := actM_facts h x
    have h2 := actsM_facts l (actM rs x) h1.1 (fun y hy => hl y (by simp [hy]))
    have h3 := hl x (by simp)
    refine ⟨h2.1, ?_⟩
    have h4 := h2.2
    simp only [actsM, List.foldl_cons, List.length_cons] at h4 ⊢
    omega
theorem DocP.idx {w : World} {d : Nat} {v : Value} {rs : List MR} (h : DocP w d v rs) : ∀ r ∈ rs, idxOk r := by
  obtain ⟨zs, h1, h2, h3⟩ := h
  exact h3
theorem DocP.own {w : World} {d : Nat} {v : Value} {rs : List MR} (h : DocP w d v rs) : ∀ g, v.ownBlock = some g → d + 1 ≤ g := by
  obtain ⟨zs, h1, h2, h3⟩ := h
  intro g hg
  exact (row_own h1.row hg).1
theorem DocP.step {w w' : World} {d B : Nat} {v v' : Value} {rs : List MR} (h : DocP w d v rs) (hs : Step d v v' w w') (hB : B ≤ d) : Below B w w' :=
  hs.below (by have := h.lt; omega) hB (fun g hg => by have := h.own g hg; omega)
theorem actQ_at {w : World} {b off i : Nat} {x : AV} (hx : actRng x) (h : actR.At w ⟨b, off + i * actR.sz, none⟩ x) : ActAt w b (off + i * 71) x := ActAt.of hx.k32 hx.a32 h
set_option maxHeartbeats 4000000 in
set_option maxRecDepth 100000 in
theorem acts_any (d : Nat) (v : Value) (rs : List MR) (p : Option Addr) (c B : Nat) (l : List AV) (w : World) (hB : B ≤ d) (hin : ∀ w', Below B w w' → actQ.In w' p l) (hl : ∀ x ∈ l, x.2.2.2.1.size ≤ 20) (ht : tot rs + 20 * l.length ≤ 5000) (h : DocP w d v rs) :
    Calls Try.prog 11 #[.pointer (some ⟨d, 0, none⟩), .slice p l.length c] w fun e w' => e = .returned (.tuple #[]) ∧ ∃ v', DocP w' d v' (actsM rs l) ∧ Step d v v' w w' := by
  have HIN := Lib.hid hin
  have HL := Lib.hid hl
  have HT := Lib.hid ht
  have HB := Lib.hid hB
  have hx6 : l.length ≤ 1000000 := by omega
  have HD0 := Lib.hid h
  clear hin hl hB ht h
  go_enter Try.func11, Try.ntmps11
  go_wp2_with fail
  go_loopg [4] l.length (fun g u wr => ∃ (k : Nat) (v1 : Value), g + k = l.length ∧ u = .int .i64 k ∧ DocP wr d v1 (actsM rs (l.take k)) ∧ Step d v v1 w wr)
  case atStart => exact ⟨0, v, by omega, rfl, HD0.out, Step.of_below (Below.refl _ _)⟩
  case round =>
    obtain ⟨k, v1, hg, rfl, hd, hs⟩ := hrel
    have HG := Lib.hid hg
    have HD := Lib.hid hd
    have HS := Lib.hid hs
    clear hg hd hs
    by_cases hk : k < l.length
    · have HK := Lib.hid hk
      have i1 : (k : Int) < l.length := by omega
      have hin1 := HIN.out wr (HD0.out.step HS.out HB.out)
      rcases hin1.2 with h | ⟨b, off, rfl, hlt, hc⟩
      · rw [h] at hk; simp at hk
      have hxx : l[k]? = some l[k] := List.getElem?_eq_getElem hk
      have HR := Lib.hid (hin1.1 _ (List.getElem_mem hk))
      have HA := Lib.hid (actQ_at HR.out (hc k _ hxx))
      have HMM := Lib.hid (HL.out _ (List.getElem_mem hk))
      have HTK := Lib.hid (show actsM rs (l.take (k + 1)) = actM (actsM rs (l.take k)) l[k] by rw [List.take_succ_eq_append_getElem hk]; simp only [actsM, List.foldl_append, List.foldl_cons, List.foldl_nil]; rfl)
      have HTT := Lib.hid (actsM_facts (l.take k) rs HD0.out.idx (fun x hx => HL.out x (List.mem_of_mem_take hx))).2
      have HTB := Lib.hid (show tot (actsM rs (l.take k)) ≤ 5000 by
        have h1 := HTT.out
        rw [List.length_take, Nat.min_eq_left (by omega)] at h1
        have := HT.out
        omega)
      generalize l[k] = x at *
      obtain ⟨xk, ⟨kt, kc, ki⟩, ⟨at_, ac, ai⟩, s, n⟩ := x
      obtain ⟨z1, z2, z3, z4, z5⟩ := kd_wrap xk
      have HKD := Lib.hid (show kd (xk, (kt, kc, ki), (at_, ac, ai), s, n) = Int.tmod (Int.tmod xk 5 + 5) 5 from rfl)
      have e0 := HA.out.kind
      simp only at e0
      clear hc hxx hlt hin1
      have HZ := Lib.hid (And.intro z4 z5)
      clear z4 z5
      by_cases c0 : Int.tmod (Int.tmod xk 5 + 5) 5 = 0
      · have HACT := Lib.hid (show actM (actsM rs (l.take k)) (xk, (kt, kc, ki), (at_, ac, ai), s, n) = insL (actsM rs (l.take k)) (kt, kc, ki) (at_, ac, ai) false s.data.toList by unfold actM; rw [HKD.out, c0]; rfl)
        go_upto_region 6 with fail
        have hbd := (Below.refl wr.heap.size wr).drew
        have HA2 := Lib.hid (HA.out.below hbd)
        have HD2 := Lib.hid (HD.out.below hbd)
        have HS2 := Lib.hid (HS.out.trans (Step.of_below hbd))
        clear hbd e0
        refine wp_region_still_tail 25 (by kernel_rfl) (by kernel_rfl) ?_
        change wpStill _ _ wr.drew (fun a' => wpList _ _ _ _ a' wr.drew) _ _
        generalize wr.drew = w2 at *
        have e0 := HA2.out.kind
        have f1 := HA2.out.kf
        have f2 := HA2.out.ka
        have f3 := HA2.out.af
        have f4 := HA2.out.aa
        have f5 := HA2.out.text
        simp only at e0 f1 f2 f3 f4 f5
        simp only [List.take_succ_cons, List.take_zero, List.drop_succ_cons, List.drop_zero]
        repeat still_step
        refine wpStill_nil ?_
        go_wp2_with fail
        refine (insert_P d v1 (actsM rs (l.take k)) (kt, kc, ki) (at_, ac, ai) false s w2 HR.out.k32 HR.out.a32 (Nat.le_trans HMM.out (by decide)) (HTB.out) HD2.out).mono ?_
        rintro e w3 ⟨rfl, v3, h3, h4⟩
        have HD3 := Lib.hid h3
        have HS3 := Lib.hid (HS2.out.trans h4)
        clear h3 h4
        go_wp2
        go_roundg (gk - 1)
        case measure => have := HG.out; have := HK.out; omega
        case rel => exact ⟨k + 1, v3, by have := HG.out; have := HK.out; omega, by go_num, by rw [HTK.out, HACT.out]; exact HD3.out, HS3.out⟩
      by_cases c1 : Int.tmod (Int.tmod xk 5 + 5) 5 = 1
      · have HACT := Lib.hid (show actM (actsM rs (l.take k)) (xk, (kt, kc, ki), (at_, ac, ai), s, n) = insL (actsM rs (l.take k)) (kt, kc, ki) (at_, ac, ai) true s.data.toList by unfold actM; rw [HKD.out, c1]; rfl)
        go_upto_region 6 with fail
        have hbd := (Below.refl wr.heap.size wr).drew
        have HA2 := Lib.hid (HA.out.below hbd)
        have HD2 := Lib.hid (HD.out.below hbd)
        have HS2 := Lib.hid (HS.out.trans (Step.of_below hbd))
        clear hbd e0
        refine wp_region_still_tail 25 (by kernel_rfl) (by kernel_rfl) ?_
        change wpStill _ _ wr.drew (fun a' => wpList _ _ _ _ a' wr.drew) _ _
        generalize wr.drew = w2 at *
        have e0 := HA2.out.kind
        have f1 := HA2.out.kf
        have f2 := HA2.out.ka
        have f3 := HA2.out.af
        have f4 := HA2.out.aa
        have f5 := HA2.out.text
        simp only at e0 f1 f2 f3 f4 f5
        simp only [List.take_succ_cons, List.take_zero, List.drop_succ_cons, List.drop_zero]
        repeat still_step
        refine wpStill_nil ?_
        go_wp2_with fail
        refine (insert_P d v1 (actsM rs (l.take k)) (kt, kc, ki) (at_, ac, ai) true s w2 HR.out.k32 HR.out.a32 (Nat.le_trans HMM.out (by decide)) (HTB.out) HD2.out).mono ?_
        rintro e w3 ⟨rfl, v3, h3, h4⟩
        have HD3 := Lib.hid h3
        have HS3 := Lib.hid (HS2.out.trans h4)
        clear h3 h4
        go_wp2
        go_roundg (gk - 1)
        case measure => have := HG.out; have := HK.out; omega
        case rel => exact ⟨k + 1, v3, by have := HG.out; have := HK.out; omega, by go_num, by rw [HTK.out, HACT.out]; exact HD3.out, HS3.out⟩
      by_cases c2 : Int.tmod (Int.tmod xk 5 + 5) 5 = 2
      · have HACT := Lib.hid (show actM (actsM rs (l.take k)) (xk, (kt, kc, ki), (at_, ac, ai), s, n) = delR (actsM rs (l.take k)) (kt, kc, ki) n by unfold actM; rw [HKD.out, c2]; rfl)
        go_upto_region 8 with fail
        have hbd := (Below.refl wr.heap.size wr).drew
        have HA2 := Lib.hid (HA.out.below hbd)
        have HD2 := Lib.hid (HD.out.below hbd)
        have HS2 := Lib.hid (HS.out.trans (Step.of_below hbd))
        clear hbd e0
        refine wp_region_still_tail 11 (by kernel_rfl) (by kernel_rfl) ?_
        change wpStill _ _ wr.drew (fun a' => wpList _ _ _ _ a' wr.drew) _ _
        generalize wr.drew = w2 at *
        have e0 := HA2.out.n
        have f1 := HA2.out.kf
        have f2 := HA2.out.ka
        simp only at e0 f1 f2
        simp only [List.take_succ_cons, List.take_zero, List.drop_succ_cons, List.drop_zero]
        repeat still_step
        refine wpStill_nil ?_
        go_wp2_with fail
        refine (delete_P d v1 (actsM rs (l.take k)) (kt, kc, ki) n w2 HR.out.k32 HTB.out HD2.out).mono ?_
        rintro e w3 ⟨rfl, v3, h3, h4⟩
        have HD3 := Lib.hid h3
        have HS3 := Lib.hid (HS2.out.trans h4)
        clear h3 h4
        go_wp2
        go_roundg (gk - 1)
        case measure => have := HG.out; have := HK.out; omega
        case rel => exact ⟨k + 1, v3, by have := HG.out; have := HK.out; omega, by go_num, by rw [HTK.out, HACT.out]; exact HD3.out, HS3.out⟩
      have HACT := Lib.hid (show actM (actsM rs (l.take k)) (xk, (kt, kc, ki), (at_, ac, ai), s, n) = actsM rs (l.take k) by unfold actM; rw [HKD.out, if_neg (by omega), if_neg c2])
      go_wp2
      go_roundg (gk - 1)
      case measure => have := HG.out; have := HK.out; omega
      case rel => exact ⟨k + 1, v1, by have := HG.out; have := HK.out; omega, by go_num, by rw [HTK.out, HACT.out]; exact HD.out, HS.out⟩
    · have i1 : ¬ (k : Int) < l.length := by omega
      have HE := Lib.hid (show l.take k = l from List.take_of_length_le (by omega))
      go_wp2
      refine bodyPost_end (results_none rfl _ _ _) rfl ?_
      exact ⟨rfl, v1, by rw [← HE.out]; exact HD.out, HS.out⟩
end Go.Proofs.Ytcgioboiebanpaa
