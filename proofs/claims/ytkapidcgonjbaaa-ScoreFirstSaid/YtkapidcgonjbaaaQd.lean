/- The merge in place: the whole; recursion. -/
import Derived.Test.YtkapidcgonjbaaaQc
namespace Go.Proofs.Ytkapidcgonjbaaa
open Go.RowKit Go.Shelf Go.Lib
open Go.Sort hiding Below
set_option linter.unusedVariables false
variable {α : Type} [Inhabited α]

/-- What the merge of a range is asked, and tells. -/
def MergeC (enc : α → Value) (cf : α → α → Int) (lt : α → α → Bool) (f : Value) (blk off cap n : Nat) (w0 : World) (a m b : Nat) (d : Array α) (w : World) : Prop :=
  a < m → m < b → b ≤ n → d.size = n → SW enc w0 blk off d w → SortedIn lt a m d → SortedIn lt m b d → (∀ p q, m ≤ p → p < b → a ≤ q → q < m → ltOf cf d[p]! d[q]! = lt d[p]! d[q]!) →
    Calls Try.prog 66 #[.slice (some ⟨blk, off, none⟩) n cap, .int .i64 a, .int .i64 m, .int .i64 b, f] w fun e w' => e = .returned (.tuple #[]) ∧ ∃ d', SW enc w0 blk off d' w' ∧ PermIn a b d d' ∧ SortedIn lt a b d'

set_option maxHeartbeats 4000000 in
set_option maxRecDepth 1000000 in
theorem symMergeG_any (enc : α → Value) (cf : α → α → Int) (lt : α → α → Bool) (hS : SWO lt) (g : Nat) (cb : Array Value) (blk off cap a m b : Nat) (d0 d : Array α) (w0 w : World)
    (eg : ∀ args w, (callFunc g args).run Try.prog w = .ok (.enter g args) w) (hcmp : CmpLays1 Try.prog g cb enc cf blk off d0.size w0) (R : Row1 enc w0 blk off d0) (hs : d0.size = d.size) (S : SW enc w0 blk off d w)
    (ham : a + 1 < m) (hmb : m + 1 < b) (hb : b ≤ d.size) (hsz : d.size < 4611686018427387904) (hL : SortedIn lt a m d) (hR : SortedIn lt m b d)
    (hag : ∀ p q, m ≤ p → p < b → a ≤ q → q < m → ltOf cf d[p]! d[q]! = lt d[p]! d[q]!)
    (IH : ∀ a' m' b' dk wk, b' - a' < b - a → MergeC enc cf lt (.func (.func g) #[] cb) blk off cap d.size w0 a' m' b' dk wk) :
    Calls Try.prog 66 #[.slice (some ⟨blk, off, none⟩) d.size cap, .int .i64 a, .int .i64 m, .int .i64 b, .func (.func g) #[] cb] w fun e w' => e = .returned (.tuple #[]) ∧ ∃ d', SW enc w0 blk off d' w' ∧ PermIn a b d d' ∧ SortedIn lt a b d' := by
  have hcl0 := R.hO.cells
  simp only [Value.cells] at hcl0
  have hst := R.hO.store Try.prog
  have mixed : Try.prog.follows .mixedOrders = true := by kernel_rfl
  have HC : Aside _ := hcmp
  have S0 : Aside (SW enc w0 blk off d w) := S
  have HAG : Aside (∀ p q, m ≤ p → p < b → a ≤ q → q < m → ltOf cf d[p]! d[q]! = lt d[p]! d[q]!) := hag
  have HSL : Aside (SortedIn lt a m d) := hL
  have HSR : Aside (SortedIn lt m b d) := hR
  have HIH : Aside (∀ a' m' b' dk wk, b' - a' < b - a → MergeC enc cf lt (.func (.func g) #[] cb) blk off cap d.size w0 a' m' b' dk wk) := IH
  have HRO : Aside (∀ (s e : Nat) (wk : World), SW enc w0 blk off d wk → s < m → m < e → e ≤ d.size →
      Calls Try.prog 72 #[.slice (some ⟨blk, off, none⟩) d.size cap, .int .i64 s, .int .i64 m, .int .i64 e, .func (.func g) #[] cb] wk fun e' w' => e' = .returned (.tuple #[]) ∧ ∃ d', SW enc w0 blk off d' w' ∧ IsRot d s m e d') :=
    fun s e wk h1 h2 h3 h4 => rotate_any enc _ blk off cap s m e d0 d w0 wk R hs h1 h2 h3 h4 hsz
  have q1 : ((m : Int) - (a : Int) == 1) = false := by rw [beq_eq_false_iff_ne]; omega
  have q2 : ((b : Int) - (m : Int) == 1) = false := by rw [beq_eq_false_iff_ne]; omega
  obtain ⟨mid, hmid⟩ : ∃ mid, mid = (a + b) / 2 := ⟨_, rfl⟩
  obtain ⟨nn, hnn⟩ : ∃ nn, nn = mid + m := ⟨_, rfl⟩
  have HMID : Aside (mid = (a + b) / 2) := hmid
  have HNN : Aside (nn = mid + m) := hnn
  have g1 : a < mid := by omega
  have g2 : mid < b := by omega
  have g3 : mid ≤ nn := by omega
  have x0 : IntKind.i64.wrap ((a : Int) + (b : Int)) = (a : Int) + (b : Int) := by rw [IntKind.wrap_i64]; omega
  have ZM : Aside (((a : Int) + (b : Int)) / 2 = (mid : Int)) := by show _ = _; omega
  have ZN : Aside ((mid : Int) + (m : Int) = (nn : Int)) := by show _ = _; omega
  have x9 : nn < 9223372036854775807 := by omega
  clear S hcmp hag hL hR IH hmid hnn
  go_enter Try.func66, Try.ntmps66
  go_upto_region 25 with fail
  rw [ZM.out]
  go_upto_region 26 with fail
  rw [ZN.out]
  clear ZM ZN q1 q2 x0
  go_upto_if 140 with fail
  go_cut [20, 21] (fun u v wx => ∃ s0 r0 : Nat, u = .int .i64 s0 ∧ v = .int .i64 r0 ∧ a ≤ s0 ∧ nn ≤ s0 + b ∧ s0 ≤ r0 ∧ r0 ≤ m ∧ r0 ≤ mid ∧ (s0 = a ∨ s0 + b = nn) ∧ (r0 = m ∨ r0 = mid) ∧ Aside (SW enc w0 blk off d wx))
  case first =>
    by_cases h : mid < m
    · have hz : (mid : Int) < (m : Int) := by omega
      have ZB : Aside ((nn : Int) - (b : Int) = ((nn - b : Nat) : Int)) := by have := HNN.out; have := HMID.out; show _ = _; omega
      have F : Aside (a ≤ nn - b ∧ nn ≤ nn - b + b ∧ nn - b ≤ mid ∧ nn - b + b = nn) := by have := HNN.out; have := HMID.out; exact ⟨by omega, by omega, by omega, by omega⟩
      go_wp2_with fail
      go_meet
      exact ⟨nn - b, mid, by rw [← ZB.out], rfl, F.out.1, F.out.2.1, F.out.2.2.1, by omega, Nat.le_refl _, .inr F.out.2.2.2, .inr rfl, S0⟩
    · have hz : ¬ (mid : Int) < (m : Int) := by omega
      have F : Aside (nn ≤ a + b) := by have := HNN.out; have := HMID.out; show _ ≤ _; omega
      go_wp2_with fail
      go_meet
      exact ⟨a, m, rfl, rfl, Nat.le_refl _, F.out, by omega, Nat.le_refl _, by omega, .inl rfl, .inl rfl, S0⟩
  case rest =>
  obtain ⟨s0, r0, rfl, rfl, f1, f2, f3, f4, f5, f6, f7, S1⟩ := hcut
  clear S0
  have F6 : Aside (s0 = a ∨ s0 + b = nn) := f6
  have F7 : Aside (r0 = m ∨ r0 = mid) := f7
  clear f6 f7
  obtain ⟨pp, hpp⟩ : ∃ pp, pp = nn - 1 := ⟨_, rfl⟩
  have HPP : Aside (pp + 1 = nn) := by show _ = _; omega
  have ZP : Aside ((nn : Int) - 1 = (pp : Int)) := by show _ = _; omega
  clear hpp
  have nnb : nn ≤ 4611686018427387904 + 4611686018427387904 := by have := HNN.out; omega
  go_wp2_with fail
  rw [ZP.out]
  clear ZP
  go_loopg [20, 21] (r0 - s0) (fun gk u v wr => ∃ s r : Nat, u = .int .i64 s ∧ v = .int .i64 r ∧ s0 ≤ s ∧ s ≤ r ∧ r ≤ r0 ∧ r - s ≤ gk ∧ Aside (SW enc w0 blk off d wr) ∧ Aside (s = s0 ∨ lt d[pp - (s - 1)]! d[s - 1]! = false) ∧ Aside (r = r0 ∨ lt d[pp - r]! d[r]! = true))
  case atStart => exact ⟨s0, r0, rfl, rfl, Nat.le_refl _, f3, Nat.le_refl _, Nat.le_refl _, S1, (show _ ∨ _ from .inl rfl), (show _ ∨ _ from .inl rfl)⟩
  case round =>
    clear S1
    obtain ⟨s, r, rfl, rfl, hss, hsr, hrr, hg, S1, H1, H2⟩ := hrel
    by_cases hlt : s < r
    · have hltz : (s : Int) < (r : Int) := by omega
      obtain ⟨c, hc⟩ : ∃ c, c = (s + r) / 2 := ⟨_, rfl⟩
      have hc1 : s ≤ c := by omega
      have hc2 : c < r := by omega
      have x1 : IntKind.i64.wrap ((s : Int) + (r : Int)) = (s : Int) + (r : Int) := by rw [IntKind.wrap_i64]; omega
      have ZH : Aside (((s : Int) + (r : Int)) / 2 = (c : Int)) := by show _ = _; omega
      have hq1 : m ≤ pp - c := by have := HPP.out; have := HNN.out; omega
      have hq2 : pp - c < b := by have := HPP.out; have := HNN.out; omega
      have hq3 : c ≤ pp := by have := HPP.out; omega
      clear hc
      go_upto_region 35 with fail
      rw [ZH.out]
      clear ZH
      cases hv : lt d[pp - c]! d[c]! with
      | false =>
        have HV : Aside (lt d[pp - c]! d[c]! = false) := hv
        have hq : ltOf cf d[pp - c]! d[c]! = false := (HAG.out (pp - c) c hq1 hq2 (by omega) (by omega)).trans hv
        clear hv
        obtain ⟨iN, hiN⟩ : ∃ q, q = pp - c := ⟨_, rfl⟩
        have ei : ((pp : Int) - (c : Int)).toNat = iN := by omega
        have pi : (0 : Int) ≤ (pp : Int) - (c : Int) := by omega
        have bi : (pp : Int) - (c : Int) < (d.size : Int) := by omega
        have ri : IntKind.i64.wrap ((pp : Int) - (c : Int)) = (pp : Int) - (c : Int) := by rw [IntKind.wrap_i64]; omega
        obtain ⟨jN, hjN⟩ : ∃ q, q = c := ⟨_, rfl⟩
        have ej : ((c : Int)).toNat = jN := by omega
        have pj : (0 : Int) ≤ (c : Int) := by omega
        have bj : (c : Int) < (d.size : Int) := by omega
        have rj : IntKind.i64.wrap ((c : Int)) = (c : Int) := by rw [IntKind.wrap_i64]; omega
        obtain ⟨x, hx⟩ : ∃ x, x = d[pp - c]! := ⟨_, rfl⟩
        obtain ⟨y, hy⟩ : ∃ x, x = d[c]! := ⟨_, rfl⟩
        have l1 := S1.out.cl R (by omega) (pp - c) (by omega)
        have l2 := S1.out.cl R (by omega) (c) (by omega)
        rw [← hx, ← hiN] at l1
        rw [← hy, ← hjN] at l2
        have hc := S1.out.cmp HC.out (by omega) x y
        have hd : decide (cf x y < 0) = false := by rw [hx, hy]; exact hq
        clear hx hy hiN hjN
        go_wp2_with fail
        go_quiet_grown (first | (go_at_fn g; refine Calls.grown_of (hc _ _)))
        have S2 : Aside (SW enc w0 blk off d (grow (wr.drewN nq) osq)) := S1.out.grown nq osq
        clear l1 l2 hc S1
        generalize grow (wr.drewN nq) osq = w2 at S2 ⊢
        clear nq osq ei ej
        clear hq
        go_wp2
        go_roundg (r - (c + 1))
        case measure => omega
        case rel => exact ⟨c + 1, r, by go_num, rfl, by omega, by omega, hrr, by omega, S2, (show _ ∨ _ from .inr HV.out), H2⟩
      | true =>
        have HV : Aside (lt d[pp - c]! d[c]! = true) := hv
        have hq : ltOf cf d[pp - c]! d[c]! = true := (HAG.out (pp - c) c hq1 hq2 (by omega) (by omega)).trans hv
        clear hv
        obtain ⟨iN, hiN⟩ : ∃ q, q = pp - c := ⟨_, rfl⟩
        have ei : ((pp : Int) - (c : Int)).toNat = iN := by omega
        have pi : (0 : Int) ≤ (pp : Int) - (c : Int) := by omega
        have bi : (pp : Int) - (c : Int) < (d.size : Int) := by omega
        have ri : IntKind.i64.wrap ((pp : Int) - (c : Int)) = (pp : Int) - (c : Int) := by rw [IntKind.wrap_i64]; omega
        obtain ⟨jN, hjN⟩ : ∃ q, q = c := ⟨_, rfl⟩
        have ej : ((c : Int)).toNat = jN := by omega
        have pj : (0 : Int) ≤ (c : Int) := by omega
        have bj : (c : Int) < (d.size : Int) := by omega
        have rj : IntKind.i64.wrap ((c : Int)) = (c : Int) := by rw [IntKind.wrap_i64]; omega
        obtain ⟨x, hx⟩ : ∃ x, x = d[pp - c]! := ⟨_, rfl⟩
        obtain ⟨y, hy⟩ : ∃ x, x = d[c]! := ⟨_, rfl⟩
        have l1 := S1.out.cl R (by omega) (pp - c) (by omega)
        have l2 := S1.out.cl R (by omega) (c) (by omega)
        rw [← hx, ← hiN] at l1
        rw [← hy, ← hjN] at l2
        have hc := S1.out.cmp HC.out (by omega) x y
        have hd : decide (cf x y < 0) = true := by rw [hx, hy]; exact hq
        clear hx hy hiN hjN
        go_wp2_with fail
        go_quiet_grown (first | (go_at_fn g; refine Calls.grown_of (hc _ _)))
        have S2 : Aside (SW enc w0 blk off d (grow (wr.drewN nq) osq)) := S1.out.grown nq osq
        clear l1 l2 hc S1
        generalize grow (wr.drewN nq) osq = w2 at S2 ⊢
        clear nq osq ei ej
        clear hq
        go_wp2
        go_roundg (c - s)
        case measure => omega
        case rel => exact ⟨s, c, rfl, rfl, hss, by omega, by omega, by omega, S2, H1, (show _ ∨ _ from .inr HV.out)⟩
    · have hrs : r = s := by omega
      subst hrs
      obtain ⟨e, he⟩ : ∃ e, e = nn - r := ⟨_, rfl⟩
      have hme : m ≤ e := by have := HNN.out; omega
      have heb : e ≤ b := by omega
      have K1 : Aside (r = a ∨ e = b ∨ lt d[e]! d[r - 1]! = false) := by
        rcases H1.out with h | h
        · rcases F6.out with h' | h'
          · exact .inl (by omega)
          · exact .inr (.inl (by omega))
        · by_cases h0 : r = a
          · exact .inl h0
          · refine .inr (.inr ?_)
            rw [show e = pp - (r - 1) by have := HPP.out; omega]; exact h
      have K2 : Aside (r = m ∨ e = m ∨ lt d[e - 1]! d[r]! = true) := by
        rcases H2.out with h | h
        · rcases F7.out with h' | h'
          · exact .inl (by omega)
          · exact .inr (.inl (by have := HNN.out; omega))
        · refine .inr (.inr ?_)
          rw [show e - 1 = pp - r by have := HPP.out; omega]; exact h
      have hrm : r ≤ m := by omega
      have har : a ≤ r := by omega
      have hmid2 : r + (e - m) = mid := by have := HNN.out; omega
      have HMD : Aside (r + (e - m) = mid) := hmid2
      have ZE : Aside ((nn : Int) - (r : Int) = (e : Int)) := by show _ = _; omega
      have hrmid : r ≤ mid := by omega
      have hme2 : mid ≤ e := by omega
      clear he H1 H2 hmid2
      go_upto_region 39 with fail
      rw [ZE.out]
      clear ZE
      go_cut [185] (fun v wx => v = .bool (decide (r < m ∧ m < e)) ∧ wr = wx)
      case first =>
        by_cases h1 : r < m
        · have z1 : (r : Int) < (m : Int) := by omega
          by_cases h2 : m < e
          · have z2 : (m : Int) < (e : Int) := by omega
            have V : Aside (decide (r < m ∧ m < e) = true) := decide_eq_true ⟨h1, h2⟩
            clear h1 h2
            go_wp2_with fail
            go_meet
            exact ⟨by rw [V.out], rfl⟩
          · have z2 : ¬ (m : Int) < (e : Int) := by omega
            have V : Aside (decide (r < m ∧ m < e) = false) := decide_eq_false (fun h => h2 h.2)
            clear h1 h2
            go_wp2_with fail
            go_meet
            exact ⟨by rw [V.out], rfl⟩
        · have z1 : ¬ (r : Int) < (m : Int) := by omega
          have V : Aside (decide (r < m ∧ m < e) = false) := decide_eq_false (fun h => h1 h.1)
          clear h1
          go_wp2_with fail
          go_meet
          exact ⟨by rw [V.out], rfl⟩
      case rest =>
      obtain ⟨rfl, rfl⟩ := hcut
      obtain ⟨B, hB⟩ : ∃ B, B = decide (r < m ∧ m < e) := ⟨_, rfl⟩
      have HB : Aside (B = decide (r < m ∧ m < e)) := hB
      rw [← hB]
      clear hB
      go_upto_if 185 with fail
      go_cut [24] (fun v wx => v = .int .i64 e ∧ ∃ d1 : Array α, Aside (SW enc w0 blk off d1 wx) ∧ Aside (IsRot d r m e d1))
      case first =>
        cases B with
        | true =>
          have hh := of_decide_eq_true (Eq.symm HB.out)
          have HCa : Aside _ := HRO.out r e wr S1.out hh.1 hh.2 (by omega)
          clear hh S1
          go_wp2_with fail
          refine Calls.mono HCa.out ?_
          rintro e' w1 ⟨rfl, d1, k1, k2⟩
          have J1 : Aside (SW enc w0 blk off d1 w1) := k1
          have J2 : Aside (IsRot d r m e d1) := k2
          clear k1 k2 HCa
          go_wp2_with fail
          go_meet
          exact ⟨rfl, d1, J1, J2⟩
        | false =>
          have J2 : Aside (IsRot d r m e d) := isRot_triv hrm hme (by have := of_decide_eq_false (Eq.symm HB.out); omega)
          go_wp2_with fail
          go_meet
          exact ⟨rfl, d, S1, J2⟩
      case rest =>
      obtain ⟨rfl, d1, T1, T2⟩ := hcut
      clear S1 HB
      have hM := merge_cut hS HSL.out HSR.out har hrm hme heb K1.out K2.out T2.out
      rw [HMD.out] at hM
      have HMC : Aside (SortedIn lt a r d1 ∧ SortedIn lt r mid d1 ∧ SortedIn lt mid e d1 ∧ SortedIn lt e b d1 ∧ Sep lt a mid b d1) := hM
      have HD1 : Aside (d1.size = d.size) := T2.out.1
      have P1 : Aside (PermIn a b d d1) := permIn_mono d d1 r e a b har heb hb (isRot_perm T2.out hrm hme (by omega))
      have A1 : Aside (∀ p q, r ≤ p → p < mid → a ≤ q → q < r → ltOf cf d1[p]! d1[q]! = lt d1[p]! d1[q]!) := fun p q h1 h2 h3 h4 => by
        have := HMD.out
        rw [T2.out.2 p, T2.out.2 q, if_pos (by omega), if_neg (by omega), if_neg (by omega)]
        exact HAG.out _ _ (by omega) (by omega) h3 (by omega)
      have A2 : Aside (∀ p q, e ≤ p → p < b → mid ≤ q → q < e → ltOf cf d1[p]! d1[q]! = lt d1[p]! d1[q]!) := fun p q h1 h2 h3 h4 => by
        have := HMD.out
        rw [T2.out.2 p, T2.out.2 q, if_neg (by omega), if_neg (by omega), if_neg (by omega), if_pos (by omega)]
        exact HAG.out _ _ (by omega) (by omega) (by omega) (by omega)
      clear hM HAG T2 K1 K2 HSL HSR
      as_aux_lemma =>
        go_upto_region 41 with fail
        go_cut [199] (fun v wx => v = .bool (decide (a < r ∧ r < mid)) ∧ wc = wx)
        case first =>
          by_cases h1 : a < r
          · have z1 : (a : Int) < (r : Int) := by omega
            by_cases h2 : r < mid
            · have z2 : (r : Int) < (mid : Int) := by omega
              have V : Aside (decide (a < r ∧ r < mid) = true) := decide_eq_true ⟨h1, h2⟩
              clear h1 h2
              go_wp2_with fail
              go_meet
              exact ⟨by rw [V.out], rfl⟩
            · have z2 : ¬ (r : Int) < (mid : Int) := by omega
              have V : Aside (decide (a < r ∧ r < mid) = false) := decide_eq_false (fun h => h2 h.2)
              clear h1 h2
              go_wp2_with fail
              go_meet
              exact ⟨by rw [V.out], rfl⟩
          · have z1 : ¬ (a : Int) < (r : Int) := by omega
            have V : Aside (decide (a < r ∧ r < mid) = false) := decide_eq_false (fun h => h1 h.1)
            clear h1
            go_wp2_with fail
            go_meet
            exact ⟨by rw [V.out], rfl⟩
        case rest =>
        obtain ⟨rfl, rfl⟩ := hcut
        obtain ⟨B, hB⟩ : ∃ B, B = decide (a < r ∧ r < mid) := ⟨_, rfl⟩
        have HB : Aside (B = decide (a < r ∧ r < mid)) := hB
        rw [← hB]
        clear hB
        go_upto_if 199 with fail
        go_cut [24] (fun v wx => v = .int .i64 e ∧ ∃ d2 : Array α, Aside (SW enc w0 blk off d2 wx) ∧ Aside (PermIn a mid d1 d2) ∧ Aside (SortedIn lt a mid d2))
        case first =>
          cases B with
          | true =>
            have hh := of_decide_eq_true (Eq.symm HB.out)
            have HCa : Aside _ := HIH.out a r mid d1 wc (by omega) hh.1 hh.2 (by omega) HD1.out T1.out HMC.out.1 HMC.out.2.1 A1.out
            clear hh T1
            go_wp2_with fail
            refine Calls.mono HCa.out ?_
            rintro e' w1 ⟨rfl, d2, k1, k2, k3⟩
            have J1 : Aside (SW enc w0 blk off d2 w1) := k1
            have J2 : Aside (PermIn a mid d1 d2) := k2
            have J3 : Aside (SortedIn lt a mid d2) := k3
            clear k1 k2 k3 HCa
            go_wp2_with fail
            go_meet
            exact ⟨rfl, d2, J1, J2, J3⟩
          | false =>
            have J2 : Aside (PermIn a mid d1 d1) := permIn_refl _ _ _
            have J3 : Aside (SortedIn lt a mid d1) := by
              have h1 := of_decide_eq_false (Eq.symm HB.out)
              by_cases h2 : a < r
              · have : r = mid := by omega
                rw [← this]; exact HMC.out.1
              · have : a = r := by omega
                rw [this]; exact HMC.out.2.1
            go_wp2_with fail
            go_meet
            exact ⟨rfl, d1, T1, J2, J3⟩
        case rest =>
        obtain ⟨rfl, d2, U1, U2, U3⟩ := hcut
        clear T1 HB A1
        have HD2 : Aside (d2.size = d.size) := U2.out.1.trans HD1.out
        have E2 : Aside (∀ k, mid ≤ k → d2[k]! = d1[k]!) := fun k hk => U2.out.2.1 k (.inr hk)
        have A3 : Aside (∀ p q, e ≤ p → p < b → mid ≤ q → q < e → ltOf cf d2[p]! d2[q]! = lt d2[p]! d2[q]!) := fun p q h1 h2 h3 h4 => by
          rw [E2.out p (by omega), E2.out q h3]; exact A2.out p q h1 h2 h3 h4
        have X1 : Aside (SortedIn lt mid e d2) := sorted_keep HMC.out.2.2.1 (fun k h1 _ => E2.out k h1)
        have X2 : Aside (SortedIn lt e b d2) := sorted_keep HMC.out.2.2.2.1 (fun k h1 _ => E2.out k (by omega))
        have X3 : Aside (Sep lt a mid b d2) := sep_perm (by omega) (by omega) (by have := HD1.out; omega) HMC.out.2.2.2.2 U2.out
        have X4 : Aside (PermIn a b d d2) := permIn_trans _ _ _ _ _ P1.out (permIn_mono d1 d2 a mid a b (Nat.le_refl _) (by omega) (by have := HD1.out; omega) U2.out)
        clear A2 E2 HMC P1 U2
        go_upto_region 43 with fail
        go_cut [213] (fun v wx => v = .bool (decide (mid < e ∧ e < b)) ∧ wc = wx)
        case first =>
          by_cases h1 : mid < e
          · have z1 : (mid : Int) < (e : Int) := by omega
            by_cases h2 : e < b
            · have z2 : (e : Int) < (b : Int) := by omega
              have V : Aside (decide (mid < e ∧ e < b) = true) := decide_eq_true ⟨h1, h2⟩
              clear h1 h2
              go_wp2_with fail
              go_meet
              exact ⟨by rw [V.out], rfl⟩
            · have z2 : ¬ (e : Int) < (b : Int) := by omega
              have V : Aside (decide (mid < e ∧ e < b) = false) := decide_eq_false (fun h => h2 h.2)
              clear h1 h2
              go_wp2_with fail
              go_meet
              exact ⟨by rw [V.out], rfl⟩
          · have z1 : ¬ (mid : Int) < (e : Int) := by omega
            have V : Aside (decide (mid < e ∧ e < b) = false) := decide_eq_false (fun h => h1 h.1)
            clear h1
            go_wp2_with fail
            go_meet
            exact ⟨by rw [V.out], rfl⟩
        case rest =>
        obtain ⟨rfl, rfl⟩ := hcut
        obtain ⟨B, hB⟩ : ∃ B, B = decide (mid < e ∧ e < b) := ⟨_, rfl⟩
        have HB : Aside (B = decide (mid < e ∧ e < b)) := hB
        rw [← hB]
        clear hB
        cases B with
        | true =>
          have hh := of_decide_eq_true (Eq.symm HB.out)
          have HCa : Aside _ := HIH.out mid e b d2 wc (by omega) hh.1 hh.2 hb HD2.out U1.out X1.out X2.out A3.out
          clear hh U1
          go_wp2_with fail
          refine Calls.mono HCa.out ?_
          rintro e' w1 ⟨rfl, d3, k1, k2, k3⟩
          have J1 : Aside (SW enc w0 blk off d3 w1) := k1
          have J2 : Aside (PermIn a b d d3) := permIn_trans _ _ _ _ _ X4.out (permIn_mono d2 d3 mid b a b (by omega) (Nat.le_refl _) (by have := HD2.out; omega) k2)
          have J3 : Aside (SortedIn lt a b d3) := sep_join (sep_perm' (by omega) (by omega) (by have := HD2.out; omega) X3.out k2) (sorted_keep U3.out (fun k _ h => k2.2.1 k (.inl h))) k3
          clear k1 k2 k3 HCa
          go_wp2
          go_end0
          exact ⟨rfl, d3, J1.out, J2.out, J3.out⟩
        | false =>
          have J3 : Aside (SortedIn lt a b d2) := sep_join X3.out U3.out (by
            have h1 := of_decide_eq_false (Eq.symm HB.out)
            by_cases h2 : mid < e
            · have : e = b := by omega
              rw [← this]; exact X1.out
            · have : mid = e := by omega
              rw [this]; exact X2.out)
          go_wp2
          go_end0
          exact ⟨rfl, d2, U1.out, X4.out, J3.out⟩

theorem symMerge_any (enc : α → Value) (cf : α → α → Int) (lt : α → α → Bool) (hS : SWO lt) (g : Nat) (cb : Array Value) (blk off cap n : Nat) (d0 : Array α) (w0 : World)
    (eg : ∀ args w, (callFunc g args).run Try.prog w = .ok (.enter g args) w) (hcmp : CmpLays1 Try.prog g cb enc cf blk off d0.size w0) (R : Row1 enc w0 blk off d0) (hs : d0.size = n) (hsz : n < 4611686018427387904) :
    ∀ (N a m b : Nat) (d : Array α) (w : World), b - a ≤ N → MergeC enc cf lt (.func (.func g) #[] cb) blk off cap n w0 a m b d w
  | 0, a, m, b, d, w, hN => fun h1 h2 => by omega
  | N + 1, a, m, b, d, w, hN => fun h1 h2 h3 h4 S hL hR hag => by
    subst h4
    by_cases c1 : m = a + 1
    · exact symMerge1_any enc cf lt hS g cb blk off cap a m b d0 d w0 w eg hcmp R hs S c1 h2 h3 hsz hR (fun p h5 h6 => hag p a h5 h6 (Nat.le_refl _) h1)
    by_cases c2 : b = m + 1
    · exact symMergeL_any enc cf lt hS g cb blk off cap a m b d0 d w0 w eg hcmp R hs S c2 (by omega) h3 hsz hL (fun q h5 h6 => hag m q (Nat.le_refl _) (by omega) h5 h6)
    · exact symMergeG_any enc cf lt hS g cb blk off cap a m b d0 d w0 w eg hcmp R hs S (by omega) (by omega) h3 hsz hL hR hag
        (fun a' m' b' dk wk h5 => symMerge_any enc cf lt hS g cb blk off cap d.size d0 w0 eg hcmp R hs hsz N a' m' b' dk wk (by omega))
end Go.Proofs.Ytkapidcgonjbaaa
