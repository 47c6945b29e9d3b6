/- Rows of numbers. -/
import Derived.Test.YtchbpfkjhilgiaaRec
namespace Go.Proofs.Ytchbpfkjhilgiaa
open Go.RowKit
set_option linter.unusedVariables false

/-- Numbers. -/
def intR : Rec Int where
  enc n := [.int .i64 n]
  sz := 1
  ok _ := True
  pos := Nat.one_pos
  len _ _ := rfl
  one x _ u hu := by simp at hu; subst hu; rfl
theorem int40 : intR.Ty Try.prog 27 3 8 := ⟨Try.underlying27, by kernel_rfl, by kernel_rfl, by decide⟩
theorem int_cell {w : World} {b o k : Nat} {x : Int} (h : intR.At w ⟨b, o + k * intR.sz, none⟩ x) : w.cell? ⟨b, o + k, none⟩ = some (.int .i64 x) := by
  have h1 : intR.At w ⟨b, o + k, none⟩ x := by have := h; simpa [intR] using this
  have := aggAt_get (j := 0) h1.1 Nat.one_pos
  rw [h1.2] at this
  simpa [intR] using this
theorem int_cell0 {w : World} {b o : Nat} {x : Int} (h : intR.At w ⟨b, o, none⟩ x) : w.cell? ⟨b, o, none⟩ = some (.int .i64 x) := by
  have := aggAt_get (j := 0) h.1 Nat.one_pos
  rw [h.2] at this
  simpa [intR] using this

/-- The comparison that is handed to merge: a closure over a block. -/
def fclo (p : Nat) : Value := .func (.func 38) #[] #[.pointer (some ⟨p, 0, none⟩)]
def CloAt (p : Nat) (K : Int → Int → Int) (S : Int → Prop) (w : World) : Prop := ∀ W, Below w.heap.size w W → ∀ x y, S x → S y →
  Calls Try.prog 38 #[.int .i64 x, .int .i64 y, .pointer (some ⟨p, 0, none⟩)] W fun e w' => e = .returned (.int .i64 (K x y)) ∧ Below W.heap.size W w'
theorem CloAt.below {p : Nat} {K : Int → Int → Int} {S : Int → Prop} {w w' : World} (h : CloAt p K S w) (hb : Below w.heap.size w w') : CloAt p K S w' :=
  fun W hW => h W (hb.trans (hW.mono hb.size))

/-- order.merge, over numbers, by a comparison. -/
def mergeI (le : Int → Int → Bool) (xs : List Int) : List Int :=
  if h : xs.length < 2 then xs else List.merge (mergeI le (xs.take (xs.length / 2))) (mergeI le (xs.drop (xs.length / 2))) le
termination_by xs.length
decreasing_by all_goals simp; omega
theorem mergeI_small (le : Int → Int → Bool) (xs : List Int) (h : xs.length < 2) : mergeI le xs = xs := by rw [mergeI, dif_pos h]
theorem mergeI_big (le : Int → Int → Bool) (xs : List Int) (h : ¬ xs.length < 2) : mergeI le xs = List.merge (mergeI le (xs.take (xs.length / 2))) (mergeI le (xs.drop (xs.length / 2))) le := by rw [mergeI, dif_neg h]
theorem mergeI_perm (le : Int → Int → Bool) (xs : List Int) : (mergeI le xs).Perm xs := by
  induction hn : xs.length using Nat.strongRecOn generalizing xs with
  | _ n ih =>
    subst hn
    by_cases h : xs.length < 2
    · rw [mergeI_small le xs h]
    · rw [mergeI_big le xs h]
      have h1 := ih (xs.take (xs.length / 2)).length (by simp; omega) _ rfl
      have h2 := ih (xs.drop (xs.length / 2)).length (by simp; omega) _ rfl
      refine (List.merge_perm_append ..).trans ((h1.append h2).trans ?_)
      rw [List.take_append_drop]
theorem mergeI_length (le : Int → Int → Bool) (xs : List Int) : (mergeI le xs).length = xs.length := (mergeI_perm le xs).length_eq

def leK (K : Int → Int → Int) : Int → Int → Bool := fun x y => decide (K x y ≤ 0)
def MergeN (p : Nat) (K : Int → Int → Int) (S : Int → Prop) (n : Nat) : Prop := ∀ (a : Option Addr) (cap : Nat) (xs : List Int) (w : World), xs.length = n → n ≤ 1000000 → intR.Sl w (.slice a n cap) xs → (∀ x ∈ xs, S x) → CloAt p K S w →
  Calls Try.prog 37 #[.slice a n cap, fclo p] w fun e w' => ∃ v, e = .returned v ∧ intR.row 3 w.heap.size (mergeI (leK K) xs) v w' ∧ Below w.heap.size w w'

set_option maxHeartbeats 1000000 in
set_option maxRecDepth 100000 in
theorem mergeN_small (p : Nat) (K : Int → Int → Int) (S : Int → Prop) (n : Nat) (h2 : n < 2) : MergeN p K S n := by
  intro a cap xs w hlen hm hsl hS hclo
  obtain ⟨a', c', he, q1, q2, q3, q4⟩ := hsl
  cases he
  have Q3 := Lib.hid q3
  have Q4 := Lib.hid q4
  have HE := Lib.hid (show xs = [] ++ xs by simp)
  have HC := Lib.hid (show ([] : List Int).length + xs.length ≤ 100000000 by simp; omega)
  have HMS := Lib.hid (mergeI_small (leK K) xs h2)
  have hi2 : (xs.length : Int) < 2 := by omega
  clear q1 q2 q3 q4 hS hclo
  unfold fclo
  go_enter Try.func37, Try.ntmps37
  go_wp2_with (at_builtin; refine Rec.wpList_app int40 rfl _ _ rfl w.heap.size (.slice none 0 0) [] xs xs HE.out rfl Rec.row.nil a cap rfl Q3.out Q4.out HC.out (Nat.le_refl _) ?_)
  rintro v' w' hown _ hb
  have HO := Lib.hid hown
  have HB := Lib.hid hb
  clear hown hb
  go_wp2
  go_ret
  exact ⟨_, rfl, by rw [HMS.out]; exact HO.out, HB.out⟩

end Go.Proofs.Ytchbpfkjhilgiaa
