/- Walks of utf.Cut and utf.Decode. -/
import Derived.Test.YtchbpfkjhilgiaaX
namespace Go.Proofs.Ytchbpfkjhilgiaa
open Go.RowKit

theorem ret_si {k : IntKind} {s s' : ByteArray} {a a' : Int} (h1 : s = s') (h2 : a = a') :
    Ending.returned (.tuple #[.string s, .int k a]) = .returned (.tuple #[.string s', .int k a']) := by rw [h1, h2]

theorem bytes_ext {s : ByteArray} {l : List UInt8} (h : s.data.toList = l) : s = ⟨l.toArray⟩ := by
  subst h; cases s; simp

def cutE (l : List UInt8) (a b : Int) : Int := if isText l then (if 0 ≤ a ∧ a ≤ b ∧ b ≤ (parse l).1.length then 0 else 1) else 5
def cutL (l : List UInt8) (a b : Int) : List UInt8 := if isText l then (if 0 ≤ a ∧ a ≤ b ∧ b ≤ (parse l).1.length then encs (((parse l).1.drop a.toNat).take (b - a).toNat) else []) else []

theorem AtU3.pre {s : ByteArray} {rs : List Int} {p : Nat} (h : AtU3 s rs p) (ht : isText s.data.toList = true) : rs = (parse s.data.toList).1.take rs.length ∧ rs.length ≤ (parse s.data.toList).1.length := by
  have hp := parse_parsed s.data.toList
  have e1 := isText_iff.1 ht
  have hq := parse_parsed (s.data.toList.drop p)
  have h2 : Parsed s.data.toList (rs ++ (parse (s.data.toList.drop p)).1) (parse (s.data.toList.drop p)).2 := by
    refine ⟨?_, ?_, hq.stop⟩
    · intro x hx
      rcases List.mem_append.1 hx with hx | hx
      · exact h.good x hx
      · exact hq.good x hx
    · have := hq.eq
      rw [encs, List.flatMap_append, List.append_assoc]
      exact h.eq.trans (by rw [encs]; congr 1)
  have h3 := (hp.unique h2).1
  rw [h3]
  simp

theorem encs_append (a b : List Int) : encs (a ++ b) = encs a ++ encs b := by simp [encs]

/-- The place where rune number k of a text begins. -/
def posOf (rs : List Int) (k : Nat) : Nat := (encs (rs.take k)).length

theorem posOf_le (rs : List Int) {j k : Nat} (h : j ≤ k) : posOf rs j ≤ posOf rs k := by
  unfold posOf
  have : rs.take k = rs.take j ++ (rs.take k).drop j := by
    conv => lhs; rw [← List.take_append_drop j (rs.take k)]
    rw [List.take_take, Nat.min_eq_left h]
  rw [this, encs_append, List.length_append]
  omega

theorem extract_encs {s : ByteArray} {rs : List Int} (h : s.data.toList = encs rs) {a b : Nat} (hab : a ≤ b) :
    (s.extract (posOf rs a) (posOf rs b)).data.toList = encs ((rs.drop a).take (b - a)) := by
  have e1 : (s.extract (posOf rs a) (posOf rs b)).data.toList = (s.data.toList.drop (posOf rs a)).take (posOf rs b - posOf rs a) := by
    simp [List.take_drop]
  rw [e1, h]
  have e2 : rs = rs.take a ++ ((rs.drop a).take (b - a) ++ rs.drop b) := by
    conv => lhs; rw [← List.take_append_drop a rs]
    congr 1
    conv => lhs; rw [← List.take_append_drop (b - a) (rs.drop a)]
    rw [List.drop_drop, Nat.add_sub_cancel' hab]
  have e3 : encs rs = encs (rs.take a) ++ (encs ((rs.drop a).take (b - a)) ++ encs (rs.drop b)) := by
    conv => lhs; rw [e2]
    simp [encs]
  have e4 : posOf rs b - posOf rs a = (encs ((rs.drop a).take (b - a))).length := by
    have : rs.take b = rs.take a ++ (rs.drop a).take (b - a) := by
      rw [← List.take_append_drop a (rs.take b), List.take_take, Nat.min_eq_left hab, List.drop_take]
    unfold posOf
    rw [this, encs_append, List.length_append]
    omega
  rw [e4, e3]
  unfold posOf
  rw [List.drop_left, List.take_left]


theorem AtU3.posEq {s : ByteArray} {rs : List Int} {p : Nat} (h : AtU3 s rs p) (ht : isText s.data.toList = true) : p = posOf (parse s.data.toList).1 rs.length := by
  have h1 := (h.pre ht).1
  unfold posOf
  rw [← h1]; exact h.len
theorem posOf_all {s : ByteArray} (ht : isText s.data.toList = true) : posOf (parse s.data.toList).1 (parse s.data.toList).1.length = s.size := by
  have h := isText_iff.1 ht
  have h2 := congrArg List.length h
  unfold posOf
  rw [List.take_length, ← h2]; simp

theorem extract_empty {s : ByteArray} {x y : Nat} (h : y ≤ x) : ByteArray.empty = s.extract x y := by
  apply ByteArray.ext
  simp
  omega

/-- Where Cut's piece begins, k runes having been passed. -/
def beginAt (rs : List Int) (n : Nat) (a k : Nat) : Nat := if a < k then posOf rs a else n

theorem cut_end {s : ByteArray} {a b : Nat} (ht : isText s.data.toList = true) (hab : a ≤ b) (hb : b ≤ (parse s.data.toList).1.length) {x y : Nat}
    (hx : x = posOf (parse s.data.toList).1 a) (hy : y = posOf (parse s.data.toList).1 b) :
    s.extract x y = ⟨(cutL s.data.toList a b).toArray⟩ ∧ cutE s.data.toList a b = 0 := by
  subst hx hy
  constructor
  · apply bytes_ext
    rw [extract_encs (isText_iff.1 ht) hab]
    unfold cutL
    rw [ht, if_pos rfl, if_pos (by omega)]
    congr 2
    omega
  · unfold cutE
    rw [ht, if_pos rfl, if_pos (by omega)]

end Go.Proofs.Ytchbpfkjhilgiaa
