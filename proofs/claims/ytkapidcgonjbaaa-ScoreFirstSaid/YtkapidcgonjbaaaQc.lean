/- The merge in place: walk. -/
import Derived.Test.YtkapidcgonjbaaaQb
namespace Go.Proofs.Ytkapidcgonjbaaa
open Go.RowKit Go.Shelf Go.Lib
open Go.Sort hiding Below
set_option linter.unusedVariables false
variable {α : Type} [Inhabited α]

set_option maxHeartbeats 4000000 in
set_option maxRecDepth 1000000 in
theorem symMerge1_any (enc : α → Value) (cf : α → α → Int) (lt : α → α → Bool) (hS : SWO lt) (g : Nat) (cb : Array Value) (blk off cap a m b : Nat) (d0 d : Array α) (w0 w : World)
    (eg : ∀ args w, (callFunc g args).run Try.prog w = .ok (.enter g args) w) (hcmp : CmpLays1 Try.prog g cb enc cf blk off d0.size w0) (R : Row1 enc w0 blk off d0) (hs : d0.size = d.size) (S : SW enc w0 blk off d w)
    (hm : m = a + 1) (hmb : m < b) (hb : b ≤ d.size) (hsz : d.size < 4611686018427387904) (hR : SortedIn lt m b d) (hag : ∀ p, m ≤ p → p < b → ltOf cf d[p]! d[a]! = lt d[p]! d[a]!) :
    Calls Try.prog 66 #[.slice (some ⟨blk, off, none⟩) d.size cap, .int .i64 a, .int .i64 m, .int .i64 b, .func (.func g) #[] cb] w fun e w' => e = .returned (.tuple #[]) ∧ ∃ d', SW enc w0 blk off d' w' ∧ PermIn a b d d' ∧ SortedIn lt a b d' := by
  have hcl0 := R.hO.cells
  simp only [Value.cells] at hcl0
  have hst := R.hO.store Try.prog
  have mixed : Try.prog.follows .mixedOrders = true := by kernel_rfl
  have HC : Aside _ := hcmp
  have S0 : Aside (SW enc w0 blk off d w) := S
  have HAG : Aside (∀ p, m ≤ p → p < b → ltOf cf d[p]! d[a]! = lt d[p]! d[a]!) := hag
  have HSR : Aside (SortedIn lt m b d) := hR
  have q1 : ((m : Int) - (a : Int) == 1) = true := by rw [beq_iff_eq]; omega
  have ham : a < m := by omega
  have HM : Aside (m = a + 1) := hm
  clear S hcmp hag hR hm
  go_enter Try.func66, Try.ntmps66
  go_wp2_with fail
  go_loopg [10, 11] (b - m) (fun gk u v wr => ∃ (i j : Nat), u = .int .i64 i ∧ v = .int .i64 j ∧ m ≤ i ∧ i ≤ j ∧ j ≤ b ∧ j - i ≤ gk ∧ Aside (SW enc w0 blk off d wr) ∧ Aside (i = m ∨ lt d[i - 1]! d[a]! = true) ∧ Aside (j = b ∨ lt d[j]! d[a]! = false))
  case atStart => exact ⟨m, b, rfl, rfl, by omega, by omega, by omega, by omega, S0, (show _ ∨ _ from .inl rfl), (show _ ∨ _ from .inl rfl)⟩
  case round =>
    clear S0
    obtain ⟨i, j, rfl, rfl, hi, hij, hjb, hg, S1, H1, H2⟩ := hrel
    by_cases hlt : i < j
    · have hltz : (i : Int) < (j : Int) := by omega
      obtain ⟨h, hh⟩ : ∃ h, h = (i + j) / 2 := ⟨_, rfl⟩
      have hhi : i ≤ h := by omega
      have hhj : h < j := by omega
      have x1 : IntKind.i64.wrap ((i : Int) + (j : Int)) = (i : Int) + (j : Int) := by rw [IntKind.wrap_i64]; omega
      have ZH : Aside (((i : Int) + (j : Int)) / 2 = (h : Int)) := by show _ = _; omega
      clear hh
      go_upto_region 5 with fail
      rw [ZH.out]
      clear ZH
      cases hv : lt d[h]! d[a]! with
      | true =>
        have HV : Aside (lt d[h]! d[a]! = true) := hv
        have hq : ltOf cf d[h]! d[a]! = true := (HAG.out h (by omega) (by omega)).trans hv
        clear hv
        obtain ⟨iN, hiN⟩ : ∃ q, q = h := ⟨_, rfl⟩
        have ei : ((h : Int)).toNat = iN := by omega
        have pi : (0 : Int) ≤ (h : Int) := by omega
        have bi : (h : Int) < (d.size : Int) := by omega
        have ri : IntKind.i64.wrap ((h : Int)) = (h : Int) := by rw [IntKind.wrap_i64]; omega
        obtain ⟨jN, hjN⟩ : ∃ q, q = a := ⟨_, rfl⟩
        have ej : ((a : Int)).toNat = jN := by omega
        have pj : (0 : Int) ≤ (a : Int) := by omega
        have bj : (a : Int) < (d.size : Int) := by omega
        have rj : IntKind.i64.wrap ((a : Int)) = (a : Int) := by rw [IntKind.wrap_i64]; omega
        obtain ⟨x, hx⟩ : ∃ x, x = d[h]! := ⟨_, rfl⟩
        obtain ⟨y, hy⟩ : ∃ x, x = d[a]! := ⟨_, rfl⟩
        have l1 := S1.out.cl R (by omega) (h) (by omega)
        have l2 := S1.out.cl R (by omega) (a) (by omega)
        rw [← hx, ← hiN] at l1
        rw [← hy, ← hjN] at l2
        have hc := S1.out.cmp HC.out (by omega) x y
        have hd : decide (cf x y < 0) = true := by rw [hx, hy]; exact hq
        clear hx hy hiN hjN
        go_wp2_with fail
        go_quiet_grown (first | (go_at_fn g; refine Calls.grown_of (hc _ _)))
        have S2 : Aside (SW enc w0 blk off d (grow (wr.drewN nq) osq)) := S1.out.grown nq osq
        clear l1 l2 hc S1
        generalize grow (wr.drewN nq) osq = w2 at S2 ⊢
        clear nq osq ei ej
        clear hq
        go_wp2
        go_roundg (j - (h + 1))
        case measure => omega
        case rel => exact ⟨h + 1, j, by go_num, rfl, by omega, by omega, hjb, by omega, S2, (show _ ∨ _ from .inr HV.out), H2⟩
      | false =>
        have HV : Aside (lt d[h]! d[a]! = false) := hv
        have hq : ltOf cf d[h]! d[a]! = false := (HAG.out h (by omega) (by omega)).trans hv
        clear hv
        obtain ⟨iN, hiN⟩ : ∃ q, q = h := ⟨_, rfl⟩
        have ei : ((h : Int)).toNat = iN := by omega
        have pi : (0 : Int) ≤ (h : Int) := by omega
        have bi : (h : Int) < (d.size : Int) := by omega
        have ri : IntKind.i64.wrap ((h : Int)) = (h : Int) := by rw [IntKind.wrap_i64]; omega
        obtain ⟨jN, hjN⟩ : ∃ q, q = a := ⟨_, rfl⟩
        have ej : ((a : Int)).toNat = jN := by omega
        have pj : (0 : Int) ≤ (a : Int) := by omega
        have bj : (a : Int) < (d.size : Int) := by omega
        have rj : IntKind.i64.wrap ((a : Int)) = (a : Int) := by rw [IntKind.wrap_i64]; omega
        obtain ⟨x, hx⟩ : ∃ x, x = d[h]! := ⟨_, rfl⟩
        obtain ⟨y, hy⟩ : ∃ x, x = d[a]! := ⟨_, rfl⟩
        have l1 := S1.out.cl R (by omega) (h) (by omega)
        have l2 := S1.out.cl R (by omega) (a) (by omega)
        rw [← hx, ← hiN] at l1
        rw [← hy, ← hjN] at l2
        have hc := S1.out.cmp HC.out (by omega) x y
        have hd : decide (cf x y < 0) = false := by rw [hx, hy]; exact hq
        clear hx hy hiN hjN
        go_wp2_with fail
        go_quiet_grown (first | (go_at_fn g; refine Calls.grown_of (hc _ _)))
        have S2 : Aside (SW enc w0 blk off d (grow (wr.drewN nq) osq)) := S1.out.grown nq osq
        clear l1 l2 hc S1
        generalize grow (wr.drewN nq) osq = w2 at S2 ⊢
        clear nq osq ei ej
        clear hq
        go_wp2
        go_roundg (h - i)
        case measure => omega
        case rel => exact ⟨i, h, rfl, rfl, hi, by omega, by omega, by omega, S2, H1, (show _ ∨ _ from .inr HV.out)⟩
    · have hji : j = i := by omega
      subst hji
      have R0 : Aside (IsRot d a m (a + 1) d) := by have := HM.out; exact isRot_triv (by omega) (by omega) (.inr this)
      clear HAG
      go_wp2_with fail
      go_loopg [13] (j - 1 - a) (fun gk u wr => ∃ (k : Nat) (dk : Array α), u = .int .i64 k ∧ a ≤ k ∧ gk + k = j - 1 ∧ dk.size = d.size ∧ Aside (SW enc w0 blk off dk wr) ∧ Aside (IsRot d a m (k + 1) dk))
      case atStart => exact ⟨a, d, rfl, by omega, by omega, rfl, S1, R0⟩
      case round =>
        clear S1 R0
        obtain ⟨k, dk, rfl, hak, hg2, hds, S1, HI⟩ := hrel
        have HG2 : Aside (gk + k = j - 1) := hg2
        have hkj : k ≤ j - 1 := by omega
        clear hg2
        by_cases hk : k < j - 1
        · have HK : Aside (k < j - 1) := hk
          have hkz : (k : Int) < (j : Int) - 1 := by omega
          have xk : IntKind.i64.wrap ((j : Int) - 1) = (j : Int) - 1 := by rw [IntKind.wrap_i64]; omega
          go_wp2_with fail
          obtain ⟨iN, hiN⟩ : ∃ q, q = k := ⟨_, rfl⟩
          have ei : ((k : Int)).toNat = iN := by omega
          have pi : (0 : Int) ≤ (k : Int) := by omega
          have bi : (k : Int) < (d.size : Int) := by omega
          have ri : IntKind.i64.wrap ((k : Int)) = (k : Int) := by rw [IntKind.wrap_i64]; omega
          obtain ⟨jN, hjN⟩ : ∃ q, q = k + 1 := ⟨_, rfl⟩
          have ej : ((k : Int) + 1).toNat = jN := by omega
          have pj : (0 : Int) ≤ (k : Int) + 1 := by omega
          have bj : (k : Int) + 1 < (d.size : Int) := by omega
          have rj : IntKind.i64.wrap ((k : Int) + 1) = (k : Int) + 1 := by rw [IntKind.wrap_i64]; omega
          obtain ⟨x, hx⟩ : ∃ x, x = dk[k]! := ⟨_, rfl⟩
          obtain ⟨y, hy⟩ : ∃ x, x = dk[k + 1]! := ⟨_, rfl⟩
          have S2 : Aside (SW enc w0 blk off (swp dk (k) (k + 1)) ((wr.setCell ⟨blk, off + iN, none⟩ (enc y)).setCell ⟨blk, off + jN, none⟩ (enc x)).drew) := by rw [hiN, hjN, hx, hy]; exact S1.out.swapped R (k) (k + 1) (by omega) (by omega)
          have ca := S1.out.c1 R (by omega) (k) (by omega)
          have cb2 := S1.out.c1 R (by omega) (k + 1) (by omega)
          have fa := S1.out.f1 R (by omega) (k) (by omega)
          have fb := S1.out.f1 R (by omega) (k + 1) (by omega)
          obtain ⟨u, cc⟩ := S1.out.c2 R (by omega) (k) (k + 1) (by omega) (by omega) (enc y)
          rw [← hjN, ← hiN] at cc
          rw [← hx, ← hiN] at ca
          rw [← hy, ← hjN] at cb2
          rw [← hiN] at fa
          rw [← hjN] at fb
          have HI2 : Aside (IsRot d a m (k + 1 + 1) (swp dk k (k + 1))) := by
            have h0 := HI.out
            rw [HM.out] at h0 ⊢
            obtain ⟨t, rfl⟩ : ∃ t, k = a + t := ⟨k - a, by omega⟩
            rw [show a + t + 1 = a + 1 + t by omega] at h0
            have h1 := isRot_up h0 (by omega)
            rw [show a + 1 + (t + 1) = a + t + 1 + 1 by omega] at h1
            exact h1
          have HSZ : Aside ((swp dk k (k + 1)).size = d.size) := by show _ = _; rw [swp_size]; exact hds
          clear S1 hx hy hiN hjN
          generalize swp dk (k) (k + 1) = dn at *
          go_wp2_with fail
          go_big_region_o
          clear ca cb2 cc fa fb
          generalize ((wr.setCell ⟨blk, off + iN, none⟩ (enc y)).setCell ⟨blk, off + jN, none⟩ (enc x)).drew = w2 at S2 ⊢
          clear ei ej
          go_wp2
          go_roundg (gk - 1)
          case measure => have h1 := HG2.out; have h2 := HK.out; omega
          case rel => exact ⟨k + 1, dn, by go_num, by omega, by have h1 := HG2.out; have h2 := HK.out; omega, HSZ.out, S2, HI2⟩
        · have hkz : ¬ (k : Int) < (j : Int) - 1 := by omega
          have hke : k + 1 = j := by omega
          have hr := HI.out
          rw [hke] at hr
          have F1 : Aside (PermIn a b d dk) := permIn_mono d dk a j a b (Nat.le_refl _) hjb hb (isRot_perm hr (by omega) (by omega) (by omega))
          have F2 : Aside (SortedIn lt a b dk) := merge_one hS (by rw [← HM.out]; exact HSR.out) (by rw [← HM.out]; exact hi) hjb (by rw [← HM.out]; exact H1.out) H2.out (by rw [← HM.out]; exact hr)
          clear hr hke H1 H2
          go_wp2
          refine bodyPost_ret (results_none rfl _ _ _) rfl ?_
          exact ⟨rfl, dk, S1.out, F1.out, F2.out⟩

set_option maxHeartbeats 4000000 in
set_option maxRecDepth 1000000 in
theorem symMergeL_any (enc : α → Value) (cf : α → α → Int) (lt : α → α → Bool) (hS : SWO lt) (g : Nat) (cb : Array Value) (blk off cap a m b : Nat) (d0 d : Array α) (w0 w : World)
    (eg : ∀ args w, (callFunc g args).run Try.prog w = .ok (.enter g args) w) (hcmp : CmpLays1 Try.prog g cb enc cf blk off d0.size w0) (R : Row1 enc w0 blk off d0) (hs : d0.size = d.size) (S : SW enc w0 blk off d w)
    (hbm : b = m + 1) (ham : a + 1 < m) (hb : b ≤ d.size) (hsz : d.size < 4611686018427387904) (hL : SortedIn lt a m d) (hag : ∀ q, a ≤ q → q < m → ltOf cf d[m]! d[q]! = lt d[m]! d[q]!) :
    Calls Try.prog 66 #[.slice (some ⟨blk, off, none⟩) d.size cap, .int .i64 a, .int .i64 m, .int .i64 b, .func (.func g) #[] cb] w fun e w' => e = .returned (.tuple #[]) ∧ ∃ d', SW enc w0 blk off d' w' ∧ PermIn a b d d' ∧ SortedIn lt a b d' := by
  have hcl0 := R.hO.cells
  simp only [Value.cells] at hcl0
  have hst := R.hO.store Try.prog
  have mixed : Try.prog.follows .mixedOrders = true := by kernel_rfl
  have HC : Aside _ := hcmp
  have S0 : Aside (SW enc w0 blk off d w) := S
  have HAG : Aside (∀ q, a ≤ q → q < m → ltOf cf d[m]! d[q]! = lt d[m]! d[q]!) := hag
  have HSL : Aside (SortedIn lt a m d) := hL
  have q1 : ((m : Int) - (a : Int) == 1) = false := by rw [beq_eq_false_iff_ne]; omega
  have q2 : ((b : Int) - (m : Int) == 1) = true := by rw [beq_iff_eq]; omega
  have hmb : m < b := by omega
  have HM : Aside (b = m + 1) := hbm
  clear S hcmp hag hL hbm
  go_enter Try.func66, Try.ntmps66
  go_wp2_with fail
  go_loopg [14, 15] (m - a) (fun gk u v wr => ∃ (i j : Nat), u = .int .i64 i ∧ v = .int .i64 j ∧ a ≤ i ∧ i ≤ j ∧ j ≤ m ∧ j - i ≤ gk ∧ Aside (SW enc w0 blk off d wr) ∧ Aside (i = a ∨ lt d[m]! d[i - 1]! = false) ∧ Aside (j = m ∨ lt d[m]! d[j]! = true))
  case atStart => exact ⟨a, m, rfl, rfl, by omega, by omega, by omega, by omega, S0, (show _ ∨ _ from .inl rfl), (show _ ∨ _ from .inl rfl)⟩
  case round =>
    clear S0
    obtain ⟨i, j, rfl, rfl, hi, hij, hjb, hg, S1, H1, H2⟩ := hrel
    by_cases hlt : i < j
    · have hltz : (i : Int) < (j : Int) := by omega
      obtain ⟨h, hh⟩ : ∃ h, h = (i + j) / 2 := ⟨_, rfl⟩
      have hhi : i ≤ h := by omega
      have hhj : h < j := by omega
      have x1 : IntKind.i64.wrap ((i : Int) + (j : Int)) = (i : Int) + (j : Int) := by rw [IntKind.wrap_i64]; omega
      have ZH : Aside (((i : Int) + (j : Int)) / 2 = (h : Int)) := by show _ = _; omega
      clear hh
      go_upto_region 17 with fail
      rw [ZH.out]
      clear ZH
      cases hv : lt d[m]! d[h]! with
      | false =>
        have HV : Aside (lt d[m]! d[h]! = false) := hv
        have hq : ltOf cf d[m]! d[h]! = false := (HAG.out h (by omega) (by omega)).trans hv
        clear hv
        obtain ⟨iN, hiN⟩ : ∃ q, q = m := ⟨_, rfl⟩
        have ei : ((m : Int)).toNat = iN := by omega
        have pi : (0 : Int) ≤ (m : Int) := by omega
        have bi : (m : Int) < (d.size : Int) := by omega
        have ri : IntKind.i64.wrap ((m : Int)) = (m : Int) := by rw [IntKind.wrap_i64]; omega
        obtain ⟨jN, hjN⟩ : ∃ q, q = h := ⟨_, rfl⟩
        have ej : ((h : Int)).toNat = jN := by omega
        have pj : (0 : Int) ≤ (h : Int) := by omega
        have bj : (h : Int) < (d.size : Int) := by omega
        have rj : IntKind.i64.wrap ((h : Int)) = (h : Int) := by rw [IntKind.wrap_i64]; omega
        obtain ⟨x, hx⟩ : ∃ x, x = d[m]! := ⟨_, rfl⟩
        obtain ⟨y, hy⟩ : ∃ x, x = d[h]! := ⟨_, rfl⟩
        have l1 := S1.out.cl R (by omega) (m) (by omega)
        have l2 := S1.out.cl R (by omega) (h) (by omega)
        rw [← hx, ← hiN] at l1
        rw [← hy, ← hjN] at l2
        have hc := S1.out.cmp HC.out (by omega) x y
        have hd : decide (cf x y < 0) = false := by rw [hx, hy]; exact hq
        clear hx hy hiN hjN
        go_wp2_with fail
        go_quiet_grown (first | (go_at_fn g; refine Calls.grown_of (hc _ _)))
        have S2 : Aside (SW enc w0 blk off d (grow (wr.drewN nq) osq)) := S1.out.grown nq osq
        clear l1 l2 hc S1
        generalize grow (wr.drewN nq) osq = w2 at S2 ⊢
        clear nq osq ei ej
        clear hq
        go_wp2
        go_roundg (j - (h + 1))
        case measure => omega
        case rel => exact ⟨h + 1, j, by go_num, rfl, by omega, by omega, hjb, by omega, S2, (show _ ∨ _ from .inr HV.out), H2⟩
      | true =>
        have HV : Aside (lt d[m]! d[h]! = true) := hv
        have hq : ltOf cf d[m]! d[h]! = true := (HAG.out h (by omega) (by omega)).trans hv
        clear hv
        obtain ⟨iN, hiN⟩ : ∃ q, q = m := ⟨_, rfl⟩
        have ei : ((m : Int)).toNat = iN := by omega
        have pi : (0 : Int) ≤ (m : Int) := by omega
        have bi : (m : Int) < (d.size : Int) := by omega
        have ri : IntKind.i64.wrap ((m : Int)) = (m : Int) := by rw [IntKind.wrap_i64]; omega
        obtain ⟨jN, hjN⟩ : ∃ q, q = h := ⟨_, rfl⟩
        have ej : ((h : Int)).toNat = jN := by omega
        have pj : (0 : Int) ≤ (h : Int) := by omega
        have bj : (h : Int) < (d.size : Int) := by omega
        have rj : IntKind.i64.wrap ((h : Int)) = (h : Int) := by rw [IntKind.wrap_i64]; omega
        obtain ⟨x, hx⟩ : ∃ x, x = d[m]! := ⟨_, rfl⟩
        obtain ⟨y, hy⟩ : ∃ x, x = d[h]! := ⟨_, rfl⟩
        have l1 := S1.out.cl R (by omega) (m) (by omega)
        have l2 := S1.out.cl R (by omega) (h) (by omega)
        rw [← hx, ← hiN] at l1
        rw [← hy, ← hjN] at l2
        have hc := S1.out.cmp HC.out (by omega) x y
        have hd : decide (cf x y < 0) = true := by rw [hx, hy]; exact hq
        clear hx hy hiN hjN
        go_wp2_with fail
        go_quiet_grown (first | (go_at_fn g; refine Calls.grown_of (hc _ _)))
        have S2 : Aside (SW enc w0 blk off d (grow (wr.drewN nq) osq)) := S1.out.grown nq osq
        clear l1 l2 hc S1
        generalize grow (wr.drewN nq) osq = w2 at S2 ⊢
        clear nq osq ei ej
        clear hq
        go_wp2
        go_roundg (h - i)
        case measure => omega
        case rel => exact ⟨i, h, rfl, rfl, hi, by omega, by omega, by omega, S2, H1, (show _ ∨ _ from .inr HV.out)⟩
    · have hji : j = i := by omega
      subst hji
      have R0 : Aside (IsRot d m m b d) := isRot_triv (by omega) (by omega) (.inl rfl)
      clear HAG
      go_wp2_with fail
      go_loopg [17] (m - j) (fun gk u wr => ∃ (k : Nat) (dk : Array α), u = .int .i64 k ∧ k ≤ m ∧ k = gk + j ∧ dk.size = d.size ∧ Aside (SW enc w0 blk off dk wr) ∧ Aside (IsRot d k m b dk))
      case atStart => exact ⟨m, d, rfl, by omega, by omega, rfl, S1, R0⟩
      case round =>
        clear S1 R0
        obtain ⟨k, dk, rfl, hak, hg2, hds, S1, HI⟩ := hrel
        have HG2 : Aside (k = gk + j) := hg2
        have hjk : j ≤ k := by omega
        clear hg2
        by_cases hk : j < k
        · have HK : Aside (j < k) := hk
          have hkz : (j : Int) < (k : Int) := by omega
          go_wp2_with fail
          obtain ⟨iN, hiN⟩ : ∃ q, q = k := ⟨_, rfl⟩
          have ei : ((k : Int)).toNat = iN := by omega
          have pi : (0 : Int) ≤ (k : Int) := by omega
          have bi : (k : Int) < (d.size : Int) := by omega
          have ri : IntKind.i64.wrap ((k : Int)) = (k : Int) := by rw [IntKind.wrap_i64]; omega
          obtain ⟨jN, hjN⟩ : ∃ q, q = k - 1 := ⟨_, rfl⟩
          have ej : ((k : Int) - 1).toNat = jN := by omega
          have pj : (0 : Int) ≤ (k : Int) - 1 := by omega
          have bj : (k : Int) - 1 < (d.size : Int) := by omega
          have rj : IntKind.i64.wrap ((k : Int) - 1) = (k : Int) - 1 := by rw [IntKind.wrap_i64]; omega
          obtain ⟨x, hx⟩ : ∃ x, x = dk[k]! := ⟨_, rfl⟩
          obtain ⟨y, hy⟩ : ∃ x, x = dk[k - 1]! := ⟨_, rfl⟩
          have S2 : Aside (SW enc w0 blk off (swp dk (k) (k - 1)) ((wr.setCell ⟨blk, off + iN, none⟩ (enc y)).setCell ⟨blk, off + jN, none⟩ (enc x)).drew) := by rw [hiN, hjN, hx, hy]; exact S1.out.swapped R (k) (k - 1) (by omega) (by omega)
          have ca := S1.out.c1 R (by omega) (k) (by omega)
          have cb2 := S1.out.c1 R (by omega) (k - 1) (by omega)
          have fa := S1.out.f1 R (by omega) (k) (by omega)
          have fb := S1.out.f1 R (by omega) (k - 1) (by omega)
          obtain ⟨u, cc⟩ := S1.out.c2 R (by omega) (k) (k - 1) (by omega) (by omega) (enc y)
          rw [← hjN, ← hiN] at cc
          rw [← hx, ← hiN] at ca
          rw [← hy, ← hjN] at cb2
          rw [← hiN] at fa
          rw [← hjN] at fb
          have HI2 : Aside (IsRot d (k - 1) m b (swp dk k (k - 1))) := by
            have h0 := HI.out
            rw [HM.out] at h0 ⊢
            obtain ⟨t, rfl⟩ : ∃ t, k = t + 1 := ⟨k - 1, by omega⟩
            rw [Nat.add_sub_cancel]
            exact isRot_down h0 (by omega) (by omega)
          have HSZ : Aside ((swp dk k (k - 1)).size = d.size) := by show _ = _; rw [swp_size]; exact hds
          clear S1 hx hy hiN hjN
          generalize swp dk (k) (k - 1) = dn at *
          go_wp2_with fail
          go_big_region_o
          clear ca cb2 cc fa fb
          generalize ((wr.setCell ⟨blk, off + iN, none⟩ (enc y)).setCell ⟨blk, off + jN, none⟩ (enc x)).drew = w2 at S2 ⊢
          clear ei ej
          go_wp2
          go_roundg (gk - 1)
          case measure => have h1 := HG2.out; have h2 := HK.out; omega
          case rel => exact ⟨k - 1, dn, by go_num, by omega, by have h1 := HG2.out; have h2 := HK.out; omega, HSZ.out, S2, HI2⟩
        · have hkz : ¬ (j : Int) < (k : Int) := by omega
          have hke : k = j := by omega
          have hr := HI.out
          rw [hke] at hr
          have F1 : Aside (PermIn a b d dk) := permIn_mono d dk j b a b hi (Nat.le_refl _) hb (isRot_perm hr hjb (by omega) hb)
          have F2 : Aside (SortedIn lt a b dk) := by rw [HM.out] at hr ⊢; exact merge_last hS HSL.out hi hjb H1.out H2.out hr
          clear hr hke H1 H2
          go_wp2
          refine bodyPost_ret (results_none rfl _ _ _) rfl ?_
          exact ⟨rfl, dk, S1.out, F1.out, F2.out⟩
end Go.Proofs.Ytkapidcgonjbaaa
