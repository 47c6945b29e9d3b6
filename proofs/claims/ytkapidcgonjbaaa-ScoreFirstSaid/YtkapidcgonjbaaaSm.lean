/- Sums and parts of floats: what two runs have in common. -/
import Derived.Test.YtkapidcgonjbaaaD
namespace Go.Proofs.Ytkapidcgonjbaaa
open Go.RowKit
set_option linter.unusedVariables false

def addV (x y : Nat) (w : World) : Nat := match Ieee.double.add x y with | some r => r | none => nanV x y w
def addN (x y : Nat) : Nat := match Ieee.double.add x y with | some _ => 0 | none => 1
@[go_sem] theorem run_add0 (t : TypeId) (x y : Nat) (w : World) : (binOp .add t (.float .f64 x) (.float .f64 y)).run Try.prog w = .ok (.float .f64 (addV x y w)) (w.drewN (addN x y)) := by
  unfold addV addN
  have h : FloatKind.f64.format.add x y = Ieee.double.add x y := rfl
  cases hd : Ieee.double.add x y with
  | some r => simp [binOp, Op.floatArith, h, hd, World.drewN_zero]
  | none =>
    simp [binOp, Op.floatArith, h, hd, nanV, Question.forced]
    rfl
/-- b is the sum of x and y; no number, where there is none. -/
def isA (x y b : Nat) : Prop := b < 18446744073709551616 ∧ match Ieee.double.add x y with | some r => b = r | none => isN b = true
theorem add_isA (x y : Nat) (w : World) : isA x y (addV x y w) := by
  unfold isA addV
  cases hd : Ieee.double.add x y with
  | some r =>
    have := Ieee.Format.add_lt _ hd
    exact ⟨this, rfl⟩
  | none => exact ⟨(nanV_nan x y w).2, (nanV_nan x y w).1⟩
theorem read_nan (c : Nat) (hc : isN c = true) : ∃ s t, Ieee.double.read c = .nan s t := by
  rw [read_eq]
  unfold isN at hc
  simp only [decide_eq_true_eq] at hc
  rw [if_neg (by omega), if_neg (by omega), if_neg (by omega)]
  exact ⟨_, _, rfl⟩
theorem add_nan (x y : Nat) (h : isN x = true) : Ieee.double.add x y = none := by
  obtain ⟨s, t, e⟩ := read_nan x h
  unfold Ieee.Format.add
  rw [e]; rfl
theorem div_nan (x y : Nat) (h : isN x = true) : Ieee.double.div x y = none := by
  obtain ⟨s, t, e⟩ := read_nan x h
  unfold Ieee.Format.div
  rw [e]; rfl
theorem div_nan' (x y : Nat) (h : isN y = true) : Ieee.double.div x y = none := by
  obtain ⟨s, t, e⟩ := read_nan y h
  unfold Ieee.Format.div
  rw [e]; cases Ieee.double.read x <;> rfl

/-- The same number, or both none. -/
def eqN (a b : Nat) : Prop := a = b ∨ (isN a = true ∧ isN b = true)
theorem eqN_ord {a b : Nat} (ha : a < 18446744073709551616) (hb : b < 18446744073709551616) (h : eqN a b) : fOrd a b = 0 := by
  rcases h with rfl | ⟨h1, h2⟩
  · unfold fOrd cmpInt; rw [if_neg (by omega), if_neg (by omega)]
  · rw [fOrd_eq a b ha hb, if_pos h1, if_pos h2]
theorem isA_eqN {a b x c d : Nat} (h : eqN a b) (h1 : isA a x c) (h2 : isA b x d) : eqN c d := by
  unfold isA at h1 h2
  rcases h with rfl | ⟨n1, n2⟩
  · cases hd : Ieee.double.add a x with
    | some r => rw [hd] at h1 h2; exact .inl (h1.2.trans h2.2.symm)
    | none => rw [hd] at h1 h2; exact .inr ⟨h1.2, h2.2⟩
  · rw [add_nan _ _ n1] at h1
    rw [add_nan _ _ n2] at h2
    exact .inr ⟨h1.2, h2.2⟩
theorem isQ_eqN {a b x c d : Nat} (h : eqN a b) (h1 : isQ x a c) (h2 : isQ x b d) : eqN c d := by
  unfold isQ at h1 h2
  rcases h with rfl | ⟨n1, n2⟩
  · cases hd : Ieee.double.div x a with
    | some r => rw [hd] at h1 h2; exact .inl (h1.2.trans h2.2.symm)
    | none => rw [hd] at h1 h2; exact .inr ⟨h1.2, h2.2⟩
  · rw [div_nan' _ _ n1] at h1
    rw [div_nan' _ _ n2] at h2
    exact .inr ⟨h1.2, h2.2⟩
theorem isQ_eqN' {a b x c d : Nat} (h : eqN a b) (h1 : isQ a x c) (h2 : isQ b x d) : eqN c d := by
  unfold isQ at h1 h2
  rcases h with rfl | ⟨n1, n2⟩
  · cases hd : Ieee.double.div a x with
    | some r => rw [hd] at h1 h2; exact .inl (h1.2.trans h2.2.symm)
    | none => rw [hd] at h1 h2; exact .inr ⟨h1.2, h2.2⟩
  · rw [div_nan _ _ n1] at h1
    rw [div_nan _ _ n2] at h2
    exact .inr ⟨h1.2, h2.2⟩

/-- s is a sum of all, from acc on. -/
def SumFrom : Nat → List Nat → Nat → Prop
  | acc, [], s => s = acc
  | acc, x :: xs, s => ∃ c, isA acc x c ∧ SumFrom c xs s
theorem SumFrom.snoc {l : List Nat} : ∀ {acc s x c : Nat}, SumFrom acc l s → isA s x c → SumFrom acc (l ++ [x]) c := by
  induction l with
  | nil => intro acc s x c h hc; unfold SumFrom at h; subst h; exact ⟨c, hc, rfl⟩
  | cons y ys ih => intro acc s x c h hc; obtain ⟨d, h1, h2⟩ := h; exact ⟨d, h1, ih h2 hc⟩
theorem SumFrom.eqN {l : List Nat} : ∀ {a b s t : Nat}, eqN a b → SumFrom a l s → SumFrom b l t → Ytkapidcgonjbaaa.eqN s t := by
  induction l with
  | nil => intro a b s t h h1 h2; unfold SumFrom at h1 h2; subst h1 h2; exact h
  | cons x xs ih =>
    intro a b s t h h1 h2
    obtain ⟨c, h1, h3⟩ := h1
    obtain ⟨d, h2, h4⟩ := h2
    exact ih (isA_eqN h h1 h2) h3 h4
theorem SumFrom.lt {l : List Nat} : ∀ {a s : Nat}, a < 18446744073709551616 → SumFrom a l s → s < 18446744073709551616 := by
  induction l with
  | nil => intro a s h h1; unfold SumFrom at h1; subst h1; exact h
  | cons x xs ih => intro a s h h1; obtain ⟨c, h1, h3⟩ := h1; exact ih h1.1 h3

set_option maxHeartbeats 1000000 in
set_option maxRecDepth 100000 in
theorem sum_any (a : Option Addr) (cap : Nat) (l : List Nat) (w : World) (hm : l.length ≤ 1000000) (hin : fltR.In w a l) :
    Calls Try.prog 49 #[.slice a l.length cap] w fun e w' => ∃ s n, e = .returned (.float .f64 s) ∧ SumFrom 0 l s ∧ w' = w.drewN n := by
  have HI := Lib.hid hin
  clear hin
  go_enter Try.func49, Try.ntmps49
  go_wp2_with fail
  go_loopg [3, 8] l.length (fun g v3 v8 wr => ∃ (k s n : Nat), g + k = l.length ∧ v8 = .int .i64 k ∧ v3 = .float .f64 s ∧ SumFrom 0 (l.take k) s ∧ wr = w.drewN n)
  case atStart => exact ⟨0, 0, 0, by omega, rfl, rfl, rfl, rfl⟩
  case round =>
    obtain ⟨k, s, n, hg, rfl, rfl, hs, rfl⟩ := hrel
    have HG := Lib.hid hg
    have HS := Lib.hid hs
    clear hg hs
    by_cases hk : k < l.length
    · rcases HI.out.2 with h | ⟨b, off, rfl, hlt, hc⟩
      · subst h; simp at hk
      have hxk : l[k]? = some (l.getD k 0) := by simp [List.getD_eq_getElem?_getD, hk]
      have e1 := flt_cell (hc k _ hxk)
      have HT := Lib.hid (show l.take (k + 1) = l.take k ++ [l.getD k 0] from take_snoc 0 l k hk)
      clear hc hxk
      generalize l.getD k 0 = x at *
      have i1 : (k : Int) < l.length := by omega
      have HA := Lib.hid (add_isA s x (w.drewN n))
      go_wp2
      go_roundg (gk - 1)
      case measure => have := HG.out; omega
      case rel => exact ⟨k + 1, _, _, by have := HG.out; omega, by go_num, rfl, by rw [HT.out]; exact HS.out.snoc HA.out, rfl⟩
    · have HE := Lib.hid (show k = l.length by have := HG.out; omega)
      go_wp2
      go_ret
      exact ⟨s, n, rfl, by have := HS.out; rw [HE.out, List.take_length] at this; exact this, rfl⟩
set_option maxHeartbeats 1000000 in
set_option maxRecDepth 100000 in
theorem rsum_any (a : Option Addr) (cap : Nat) (l : List Nat) (w : World) (hm : l.length ≤ 1000000) (hin : fltR.In w a l) :
    Calls Try.prog 30 #[.slice a l.length cap] w fun e w' => ∃ s n, e = .returned (.float .f64 s) ∧ SumFrom 0 l s ∧ w' = w.drewN n := by
  have HI := Lib.hid hin
  clear hin
  go_enter Try.func30, Try.ntmps30
  go_wp2_with fail
  go_loopg [3, 4] l.length (fun g v3 v8 wr => ∃ (k s n : Nat), g + k = l.length ∧ v8 = .int .i64 k ∧ v3 = .float .f64 s ∧ SumFrom 0 (l.take k) s ∧ wr = w.drewN n)
  case atStart => exact ⟨0, 0, 0, by omega, rfl, rfl, rfl, rfl⟩
  case round =>
    obtain ⟨k, s, n, hg, rfl, rfl, hs, rfl⟩ := hrel
    have HG := Lib.hid hg
    have HS := Lib.hid hs
    clear hg hs
    by_cases hk : k < l.length
    · rcases HI.out.2 with h | ⟨b, off, rfl, hlt, hc⟩
      · subst h; simp at hk
      have hxk : l[k]? = some (l.getD k 0) := by simp [List.getD_eq_getElem?_getD, hk]
      have e1 := flt_cell (hc k _ hxk)
      have HT := Lib.hid (show l.take (k + 1) = l.take k ++ [l.getD k 0] from take_snoc 0 l k hk)
      clear hc hxk
      generalize l.getD k 0 = x at *
      have i1 : (k : Int) < l.length := by omega
      have HA := Lib.hid (add_isA s x (w.drewN n))
      go_wp2
      go_roundg (gk - 1)
      case measure => have := HG.out; omega
      case rel => exact ⟨k + 1, _, _, by have := HG.out; omega, by go_num, rfl, by rw [HT.out]; exact HS.out.snoc HA.out, rfl⟩
    · have HE := Lib.hid (show k = l.length by have := HG.out; omega)
      go_wp2
      go_ret
      exact ⟨s, n, rfl, by have := HS.out; rw [HE.out, List.take_length] at this; exact this, rfl⟩
end Go.Proofs.Ytkapidcgonjbaaa
