/- The exchange of two ranges; the turning of two ranges that meet: walks. -/
import Derived.Test.YtkapidcgonjbaaaRb
import Derived.Test.YtkapidcgonjbaaaQa
import Derived.Sort.WalkA
import Derived.Sort.WalkB2
import Derived.Sort.WalkB12
import Derived.Deep.LoopGhost
namespace Go.Proofs.Ytkapidcgonjbaaa
open Go.RowKit Go.Shelf Go.Lib
open Go.Sort hiding Below
set_option linter.unusedVariables false
variable {α : Type} [Inhabited α]

set_option maxHeartbeats 4000000 in
set_option maxRecDepth 1000000 in
theorem swapRange_any (enc : α → Value) (f : Value) (blk off cap a b n : Nat) (d0 d : Array α) (w0 w : World)
    (R : Row1 enc w0 blk off d0) (hs : d0.size = d.size) (S : SW enc w0 blk off d w) (hab : a + n ≤ b) (hb : b + n ≤ d.size) (hsz : d.size < 4611686018427387904) :
    Calls Try.prog 74 #[.slice (some ⟨blk, off, none⟩) d.size cap, .int .i64 a, .int .i64 b, .int .i64 n, f] w fun e w' => e = .returned (.tuple #[]) ∧ ∃ d', SW enc w0 blk off d' w' ∧ IsSw d a b n d' := by
  have hcl0 := R.hO.cells
  simp only [Value.cells] at hcl0
  have hst := R.hO.store Try.prog
  have mixed : Try.prog.follows .mixedOrders = true := by kernel_rfl
  have S0 : Aside (SW enc w0 blk off d w) := S
  clear S
  go_enter Try.func74, Try.ntmps74
  go_wp2
  go_loopg [10] n (fun g v wr => ∃ (i : Nat) (dk : Array α), v = .int .i64 i ∧ g + i = n ∧ dk.size = d.size ∧ Aside (SW enc w0 blk off dk wr) ∧ Aside (IsSw d a b i dk))
  case atStart => exact ⟨0, d, rfl, by omega, rfl, S0, isSw_zero d a b⟩
  case round =>
    clear S0
    obtain ⟨i, dk, rfl, hg, hds, S1, HI⟩ := hrel
    by_cases hlt : i < n
    · have hltz : (i : Int) < (n : Int) := by omega
      have HG : Aside (gk + i = n) := hg
      have HN : Aside (i < n) := hlt
      go_wp2_with fail
      obtain ⟨iN, hiN⟩ : ∃ q, q = a + i := ⟨_, rfl⟩
      obtain ⟨jN, hjN⟩ : ∃ q, q = b + i := ⟨_, rfl⟩
      have ea : ((a : Int) + (i : Int)).toNat = iN := by omega
      have pa : (0 : Int) ≤ (a : Int) + (i : Int) := by omega
      have ba : (a : Int) + (i : Int) < (d.size : Int) := by omega
      have ra : IntKind.i64.wrap ((a : Int) + (i : Int)) = (a : Int) + (i : Int) := by rw [IntKind.wrap_i64]; omega
      have ec : ((b : Int) + (i : Int)).toNat = jN := by omega
      have pc : (0 : Int) ≤ (b : Int) + (i : Int) := by omega
      have bc : (b : Int) + (i : Int) < (d.size : Int) := by omega
      have rc : IntKind.i64.wrap ((b : Int) + (i : Int)) = (b : Int) + (i : Int) := by rw [IntKind.wrap_i64]; omega
      obtain ⟨x, hx⟩ : ∃ x, x = dk[a + i]! := ⟨_, rfl⟩
      obtain ⟨y, hy⟩ : ∃ x, x = dk[b + i]! := ⟨_, rfl⟩
      have S2 : Aside (SW enc w0 blk off (swp dk (a + i) (b + i)) ((wr.setCell ⟨blk, off + iN, none⟩ (enc y)).setCell ⟨blk, off + jN, none⟩ (enc x)).drew) := by rw [hiN, hjN, hx, hy]; exact S1.out.swapped R (a + i) (b + i) (by omega) (by omega)
      have ca := S1.out.c1 R (by omega) (a + i) (by omega)
      have cb := S1.out.c1 R (by omega) (b + i) (by omega)
      have fa := S1.out.f1 R (by omega) (a + i) (by omega)
      have fb := S1.out.f1 R (by omega) (b + i) (by omega)
      obtain ⟨u, cc⟩ := S1.out.c2 R (by omega) (a + i) (b + i) (by omega) (by omega) (enc y)
      rw [← hjN, ← hiN] at cc
      rw [← hx, ← hiN] at ca
      rw [← hy, ← hjN] at cb
      rw [← hiN] at fa
      rw [← hjN] at fb
      have HI2 : Aside (IsSw d a b (i + 1) (swp dk (a + i) (b + i))) := isSw_succ HI.out (by omega) (by omega)
      have HSZ : Aside ((swp dk (a + i) (b + i)).size = d.size) := by show _ = _; rw [size_swp]; exact hds
      clear S1 hx hy hiN hjN
      generalize swp dk (a + i) (b + i) = dn at *
      go_wp2_with fail
      go_big_region_o
      clear ca cb cc fa fb
      generalize ((wr.setCell ⟨blk, off + iN, none⟩ (enc y)).setCell ⟨blk, off + jN, none⟩ (enc x)).drew = w2 at S2 ⊢
      clear ea ec
      go_wp2
      go_roundg (gk - 1)
      case measure => have := HG.out; have := HN.out; omega
      case rel => exact ⟨i + 1, dn, by go_num, by have := HG.out; have := HN.out; omega, HSZ.out, S2, HI2⟩
    · have hltz : ¬ (i : Int) < (n : Int) := by omega
      have hi : i = n := by omega
      subst hi
      go_wp2
      go_end0
      exact ⟨rfl, dk, S1.out, HI.out⟩

set_option maxHeartbeats 4000000 in
set_option maxRecDepth 1000000 in
theorem rotate_any (enc : α → Value) (f : Value) (blk off cap a m b : Nat) (d0 d : Array α) (w0 w : World)
    (R : Row1 enc w0 blk off d0) (hs : d0.size = d.size) (S : SW enc w0 blk off d w) (ham : a < m) (hmb : m < b) (hb : b ≤ d.size) (hsz : d.size < 4611686018427387904) :
    Calls Try.prog 72 #[.slice (some ⟨blk, off, none⟩) d.size cap, .int .i64 a, .int .i64 m, .int .i64 b, f] w fun e w' => e = .returned (.tuple #[]) ∧ ∃ d', SW enc w0 blk off d' w' ∧ IsRot d a m b d' := by
  have S0 : Aside (SW enc w0 blk off d w) := S
  have HSW : Aside (∀ (a b n : Nat) (dk : Array α) (wk : World), dk.size = d.size → SW enc w0 blk off dk wk → a + n ≤ b → b + n ≤ d.size →
      Calls Try.prog 74 #[.slice (some ⟨blk, off, none⟩) d.size cap, .int .i64 a, .int .i64 b, .int .i64 n, f] wk fun e w' => e = .returned (.tuple #[]) ∧ ∃ d', SW enc w0 blk off d' w' ∧ IsSw dk a b n d') := by
    intro a b n dk wk h1 h2 h3 h4
    have := swapRange_any enc f blk off cap a b n d0 dk w0 wk R (by omega) h2 h3 (by omega) (by omega)
    rw [h1] at this
    exact this
  have z1 : (m : Int) - (a : Int) = ((m - a : Nat) : Int) := by omega
  have z2 : (b : Int) - (m : Int) = ((b - m : Nat) : Int) := by omega
  clear S R hs
  go_enter Try.func72, Try.ntmps72
  go_wp2
  try rw [z1, z2]
  clear z1 z2
  go_loopg [10, 11] (b - a) (fun g v u wr => ∃ (i j : Nat) (dk : Array α), v = .int .i64 i ∧ u = .int .i64 j ∧ 0 < i ∧ 0 < j ∧ i ≤ m - a ∧ j ≤ b - m ∧ i + j ≤ g ∧ dk.size = d.size ∧ Aside (SW enc w0 blk off dk wr) ∧ Aside (∀ f, IsRot dk (m - i) m (m + j) f → IsRot d a m b f))
  case atStart => exact ⟨m - a, b - m, d, by go_num, by go_num, by omega, by omega, by omega, by omega, by omega, rfl, S0, (show ∀ f, _ from fun f hf => by rw [show m - (m - a) = a by omega, show m + (b - m) = b by omega] at hf; exact hf)⟩
  case round =>
    clear S0
    obtain ⟨i, j, dk, rfl, rfl, hi0, hj0, him, hjb, hg, hds, S1, HI⟩ := hrel
    have z3 : (m : Int) - (i : Int) = ((m - i : Nat) : Int) := by omega
    have r3 : IntKind.i64.wrap (((m - i : Nat) : Int)) = ((m - i : Nat) : Int) := by rw [IntKind.wrap_i64]; omega
    by_cases hij : i = j
    · subst hij
      have HC : Aside _ := HSW.out (m - i) m i dk wr hds S1.out (by omega) (by omega)
      clear HSW S1
      go_wp2_with fail
      try rw [z3]
      refine Calls.mono HC.out ?_
      rintro e w1 ⟨rfl, d', h1, h2⟩
      have K1 : Aside (SW enc w0 blk off d' w1) := h1
      have K2 : Aside (IsRot d a m b d') := HI.out d' (isRot_sw0 h2 (by omega))
      clear h1 h2 HC HI
      go_wp2
      go_end0
      exact ⟨rfl, d', K1.out, K2.out⟩
    · have hne : ((i : Int) == (j : Int)) = false := by rw [beq_eq_false_iff_ne]; omega
      by_cases hgt : j < i
      · have hgz : (j : Int) < (i : Int) := by omega
        have z4 : (i : Int) - (j : Int) = ((i - j : Nat) : Int) := by omega
        have HC : Aside _ := HSW.out (m - i) m j dk wr hds S1.out (by omega) (by omega)
        clear S1
        go_wp2_with fail
        try rw [z3]
        refine Calls.mono HC.out ?_
        rintro e w1 ⟨rfl, d', h1, h2⟩
        have K1 : Aside (SW enc w0 blk off d' w1) := h1
        have K2 : Aside (∀ f, IsRot d' (m - (i - j)) m (m + j) f → IsRot d a m b f) := fun f hf => HI.out f (isRot_sw1 h2 hgt (by omega) hf)
        have K3 : Aside (d'.size = d.size) := h2.1.trans hds
        clear h1 h2 HC HI
        go_wp2
        go_roundg (i - j + j)
        case measure => omega
        case rel => exact ⟨i - j, j, d', by go_num, rfl, by omega, hj0, by omega, hjb, by omega, K3.out, K1, K2⟩
      · have hgz : ¬ (j : Int) < (i : Int) := by omega
        have z4 : (j : Int) - (i : Int) = ((j - i : Nat) : Int) := by omega
        have z5 : (m : Int) + (j : Int) - (i : Int) = ((m + j - i : Nat) : Int) := by omega
        have HC : Aside _ := HSW.out (m - i) (m + j - i) i dk wr hds S1.out (by omega) (by omega)
        clear S1
        go_wp2_with fail
        try rw [z3]
        try rw [z5]
        refine Calls.mono HC.out ?_
        rintro e w1 ⟨rfl, d', h1, h2⟩
        have K1 : Aside (SW enc w0 blk off d' w1) := h1
        have K2 : Aside (∀ f, IsRot d' (m - i) m (m + (j - i)) f → IsRot d a m b f) := fun f hf => HI.out f (isRot_sw2 h2 (by omega) (by omega) hf)
        have K3 : Aside (d'.size = d.size) := h2.1.trans hds
        clear h1 h2 HC HI
        go_wp2
        go_roundg (i + (j - i))
        case measure => omega
        case rel => exact ⟨i, j - i, d', rfl, by go_num, hi0, by omega, him, by omega, by omega, K3.out, K1, K2⟩
end Go.Proofs.Ytkapidcgonjbaaa
