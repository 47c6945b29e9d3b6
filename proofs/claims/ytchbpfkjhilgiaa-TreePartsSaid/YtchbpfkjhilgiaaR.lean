/- Walks of the reference of chapter 3: One, Decode. -/
import Derived.Test.YtchbpfkjhilgiaaZ
import Derived.Deep.QuietTactic
import Derived.BigQuiet
import Derived.Deep.LoopGhost
import Derived.Deep.DeepCutAuto
import Derived.Deep.CutBlock
namespace Go.Proofs.Ytchbpfkjhilgiaa
open Go.RowKit
set_option linter.unusedVariables false

/-- The number that One reckons of n bytes. -/
def oneV (n : Nat) (l : List UInt8) : Int :=
  match n, l with
  | 1, a :: _ => (a.toNat : Int)
  | 2, a :: b :: _ => ((a.toNat : Int) - 192) * 64 + b.toNat - 128
  | 3, a :: b :: c :: _ => ((a.toNat : Int) - 224) * 4096 + ((b.toNat : Int) - 128) * 64 + c.toNat - 128
  | 4, a :: b :: c :: d :: _ => ((a.toNat : Int) - 240) * 262144 + ((b.toNat : Int) - 128) * 4096 + ((c.toNat : Int) - 128) * 64 + d.toNat - 128
  | _, _ => 0

theorem one_hit {l : List UInt8} {n : Nat} {v : Int} (hm : may v = true) (h : enc v = l.take n) (hn : n ≤ l.length) : dec1 l = some (v, n) := by
  have e : l = enc v ++ l.drop n := by rw [h, List.take_append_drop]
  have hl : (enc v).length = n := by rw [h]; simp; omega
  rw [e, dec1_enc v _ hm, hl]

theorem one_conv {l : List UInt8} {n : Nat} {r : Int} (h : dec1 l = some (r, n)) : may r = true ∧ enc r = l.take n ∧ oneV n l = r ∧ 1 ≤ n ∧ n ≤ 4 ∧ n ≤ l.length := by
  obtain ⟨hm, t, rfl, rfl⟩ := dec1_some h
  have hm' := (may_iff r).1 hm
  refine ⟨hm, by simp, ?_, (enc_ne r).1, (enc_ne r).2, by simp⟩
  unfold enc
  by_cases h1 : r < 128
  · rw [if_pos h1]
    have e0 := toNat_of r.toNat (by omega)
    simp only [List.length_cons, List.length_nil, List.cons_append, List.nil_append, oneV, e0]
    omega
  rw [if_neg h1]
  by_cases h2 : r < 2048
  · rw [if_pos h2]
    have e0 := toNat_of (192 + r.toNat / 64) (by omega)
    have e1 := toNat_of (128 + r.toNat % 64) (by omega)
    simp only [List.length_cons, List.length_nil, List.cons_append, List.nil_append, oneV, e0, e1]
    omega
  rw [if_neg h2]
  by_cases h3 : r < 65536
  · rw [if_pos h3]
    have e0 := toNat_of (224 + r.toNat / 4096) (by omega)
    have e1 := toNat_of (128 + r.toNat / 64 % 64) (by omega)
    have e2 := toNat_of (128 + r.toNat % 64) (by omega)
    simp only [List.length_cons, List.length_nil, List.cons_append, List.nil_append, oneV, e0, e1, e2]
    omega
  · rw [if_neg h3]
    have e0 := toNat_of (240 + r.toNat / 262144) (by omega)
    have e3 := toNat_of (128 + r.toNat / 4096 % 64) (by omega)
    have e1 := toNat_of (128 + r.toNat / 64 % 64) (by omega)
    have e2 := toNat_of (128 + r.toNat % 64) (by omega)
    simp only [List.length_cons, List.length_nil, List.cons_append, List.nil_append, oneV, e0, e1, e2, e3]
    omega

theorem oneV_bd (n : Nat) (l : List UInt8) : -100000000 ≤ oneV n l ∧ oneV n l ≤ 100000000 := by
  unfold oneV
  split
  · rename_i a _; have := a.toNat_lt; omega
  · rename_i a b _; have := a.toNat_lt; have := b.toNat_lt; omega
  · rename_i a b c _; have := a.toNat_lt; have := b.toNat_lt; have := c.toNat_lt; omega
  · rename_i a b c d _; have := a.toNat_lt; have := b.toNat_lt; have := c.toNat_lt; have := d.toNat_lt; omega
  · omega

/-- What One hands back. -/
def oneOf (l : List UInt8) : Int × Int := match dec1 l with | some (r, k) => (r, (k : Int)) | none => (0, 0)

theorem oneV_at (s : ByteArray) (p k : Nat) (h1 : 1 ≤ k) (h4 : k ≤ 4) (hks : p + k ≤ s.size) :
    oneV k (s.data.toList.drop p) = if h : k = 1 then (s[p].toNat : Int) else if h : k = 2 then ((s[p].toNat : Int) - 192) * 64 + s[p + 1].toNat - 128
      else if h : k = 3 then ((s[p].toNat : Int) - 224) * 4096 + ((s[p + 1].toNat : Int) - 128) * 64 + s[p + 2].toNat - 128
      else if h : k = 4 then ((s[p].toNat : Int) - 240) * 262144 + ((s[p + 1].toNat : Int) - 128) * 4096 + ((s[p + 2].toNat : Int) - 128) * 64 + s[p + 3].toNat - 128 else 0 := by
  rw [drop_at s p (by omega)]
  rcases (show k = 1 ∨ k = 2 ∨ k = 3 ∨ k = 4 by omega) with rfl | rfl | rfl | rfl
  · simp [oneV]
  · rw [drop_at s (p + 1) (by omega)]; simp [oneV]
  · rw [drop_at s (p + 1) (by omega), drop_at s (p + 2) (by omega)]; simp [oneV]
  · rw [drop_at s (p + 1) (by omega), drop_at s (p + 2) (by omega), drop_at s (p + 3) (by omega)]; simp [oneV]

end Go.Proofs.Ytchbpfkjhilgiaa
