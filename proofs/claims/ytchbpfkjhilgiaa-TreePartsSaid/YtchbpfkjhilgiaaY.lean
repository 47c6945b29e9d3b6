/- Walks of the functions of utf that go through a text by a range over the string: Count, Runes, Cut. -/
import Derived.Test.YtchbpfkjhilgiaaW
import Derived.Lib.OthersKept
import Derived.WalkSmall
namespace Go.Proofs.Ytchbpfkjhilgiaa
open Go.RowKit

theorem get_of {s : ByteArray} {p : Nat} {l t : List UInt8} (h : s.data.toList.drop p = l ++ t) (j : Nat) (hj : j < l.length) : p + j < s.size ∧ s.get! (p + j) = l[j] := by
  have hlen := congrArg List.length h
  simp at hlen
  have hs : p + j < s.size := by omega
  refine ⟨hs, ?_⟩
  have e1 : s.get! (p + j) = s[p + j] := by
    have := get_at s (p + j) hs
    simpa using this
  rw [e1]
  have e2 : (s.data.toList.drop p)[j]? = (l ++ t)[j]? := by rw [h]
  rw [List.getElem?_drop, List.getElem?_append_left hj, List.getElem?_eq_getElem hj, List.getElem?_eq_getElem (by simpa using hs)] at e2
  exact Option.some.inj e2

set_option maxRecDepth 20000 in
/-- The model's own decoding of a rune at a place, where one stands. -/
theorem utf8_of {s : ByteArray} {p : Nat} {r : Int} {k : Nat} (hd : dec1 (s.data.toList.drop p) = some (r, k)) : ((Utf8.decode s p).1 : Int) = r ∧ (Utf8.decode s p).2 = k := by
  obtain ⟨hm, t, ht, rfl⟩ := dec1_some hd
  have hm' := (may_iff r).1 hm
  have g := fun j hj => @get_of s p (enc r) t ht j hj
  clear ht hd
  unfold enc at g ⊢
  by_cases c1 : r < 128
  · rw [if_pos c1] at g ⊢
    have g0 := (g 0 (by simp)).2
    have n0 : (s.get! (p + 0)).toNat = r.toNat := by rw [g0]; exact toNat_of _ (by omega)
    simp only [Utf8.decode, n0]
    rw [if_pos (by omega)]
    exact ⟨by simp; omega, by simp⟩
  rw [if_neg c1] at g ⊢
  by_cases c2 : r < 2048
  · rw [if_pos c2] at g ⊢
    have g0 := (g 0 (by simp)).2
    have g1 := g 1 (by simp)
    have n0 : (s.get! (p + 0)).toNat = 192 + r.toNat / 64 := by rw [g0]; exact toNat_of _ (by omega)
    have n1 : (s.get! (p + 1)).toNat = 128 + r.toNat % 64 := by rw [g1.2]; exact toNat_of _ (by omega)
    simp only [Utf8.decode, n0, n1]
    have hc1 : (decide (p + 1 < s.size) && (128 + r.toNat % 64) / 64 == 2) = true := by simp [g1.1]; omega
    rw [if_neg (by omega), hc1, if_pos (by simp; omega), if_pos (by omega)]
    exact ⟨by simp; omega, by simp⟩
  rw [if_neg c2] at g ⊢
  by_cases c3 : r < 65536
  · rw [if_pos c3] at g ⊢
    have g0 := (g 0 (by simp)).2
    have g1 := g 1 (by simp)
    have g2 := g 2 (by simp)
    have n0 : (s.get! (p + 0)).toNat = 224 + r.toNat / 4096 := by rw [g0]; exact toNat_of _ (by omega)
    have n1 : (s.get! (p + 1)).toNat = 128 + r.toNat / 64 % 64 := by rw [g1.2]; exact toNat_of _ (by omega)
    have n2 : (s.get! (p + 2)).toNat = 128 + r.toNat % 64 := by rw [g2.2]; exact toNat_of _ (by omega)
    simp only [Utf8.decode, n0, n1, n2]
    have hc1 : (decide (p + 1 < s.size) && (128 + r.toNat / 64 % 64) / 64 == 2) = true := by simp [g1.1]; omega
    have hc2 : (decide (p + 2 < s.size) && (128 + r.toNat % 64) / 64 == 2) = true := by simp [g2.1]; omega
    have hv : (224 + r.toNat / 4096) % 16 * 4096 + (128 + r.toNat / 64 % 64) % 64 * 64 + (128 + r.toNat % 64) % 64 = r.toNat := by omega
    have hv2 : Utf8.valid (r.toNat : Int) = true := by simp [Utf8.valid]; omega
    rw [if_neg (by omega), hc1, hc2, if_neg (by simp; omega), if_pos (by simp; omega), hv, hv2, if_pos (by simp; omega)]
    exact ⟨by simp; omega, by simp⟩
  · rw [if_neg c3] at g ⊢
    have g0 := (g 0 (by simp)).2
    have g1 := g 1 (by simp)
    have g2 := g 2 (by simp)
    have g3 := g 3 (by simp)
    have n0 : (s.get! (p + 0)).toNat = 240 + r.toNat / 262144 := by rw [g0]; exact toNat_of _ (by omega)
    have n1 : (s.get! (p + 1)).toNat = 128 + r.toNat / 4096 % 64 := by rw [g1.2]; exact toNat_of _ (by omega)
    have n2 : (s.get! (p + 2)).toNat = 128 + r.toNat / 64 % 64 := by rw [g2.2]; exact toNat_of _ (by omega)
    have n3 : (s.get! (p + 3)).toNat = 128 + r.toNat % 64 := by rw [g3.2]; exact toNat_of _ (by omega)
    simp only [Utf8.decode, n0, n1, n2, n3]
    have hc1 : (decide (p + 1 < s.size) && (128 + r.toNat / 4096 % 64) / 64 == 2) = true := by simp [g1.1]; omega
    have hc2 : (decide (p + 2 < s.size) && (128 + r.toNat / 64 % 64) / 64 == 2) = true := by simp [g2.1]; omega
    have hc3 : (decide (p + 3 < s.size) && (128 + r.toNat % 64) / 64 == 2) = true := by simp [g3.1]; omega
    have hv : (240 + r.toNat / 262144) % 8 * 262144 + (128 + r.toNat / 4096 % 64) % 64 * 4096 + (128 + r.toNat / 64 % 64) % 64 * 64 + (128 + r.toNat % 64) % 64 = r.toNat := by omega
    have hv2 : Utf8.valid (r.toNat : Int) = true := by simp [Utf8.valid]; omega
    rw [if_neg (by omega), hc1, hc2, hc3, if_neg (by simp; omega), if_neg (by simp; omega), if_pos (by simp; omega), hv, hv2, if_pos (by simp; omega)]
    exact ⟨by simp; omega, by simp⟩

/-- In a text, at a place where a rune begins: what stands there. -/
theorem AtU3.rune {s : ByteArray} {rs : List Int} {p : Nat} (h : AtU3 s rs p) (ht : isText s.data.toList = true) (hlt : p < s.size) :
    ∃ r k, dec1 (s.data.toList.drop p) = some (r, k) ∧ ((Utf8.decode s p).1 : Int) = r ∧ (Utf8.decode s p).2 = k := by
  cases hd : dec1 (s.data.toList.drop p) with
  | none =>
    have hp := h.fail hd
    unfold isText at ht
    rw [hp] at ht
    simp at ht
    omega
  | some rk =>
    obtain ⟨r, k⟩ := rk
    obtain ⟨h1, h2⟩ := utf8_of hd
    exact ⟨r, k, rfl, h1, h2⟩

/-- 'next' at a place in a text where a rune begins: the world behind it. -/
theorem AtU3.next_run {s : ByteArray} {rs : List Int} {p : Nat} (h : AtU3 s rs p) (ht : isText s.data.toList = true) (hlt : p < s.size) {wr : World} {k : Nat}
    (hit : wr.heap[k]? = some (.stringIter s p)) :
    ∃ (r : Int) (p' : Nat) (wi : World), (AtU3 s (rs ++ [r]) p' ∧ p' ≤ s.size ∧ p < p' ∧ may r = true) ∧
      (∀ ty, (Instr.next (.pointer (some ⟨k, 0, none⟩)) true ty).run Try.prog wr = .ok (.tuple #[.bool true, .int .i64 p, .int .i32 r]) wi) ∧
      wi.heap[k]? = some (.stringIter s p') ∧ wi.heap.size = wr.heap.size ∧ (∀ (w : World) (B : Nat), B ≤ k → Below B w wr → Below B w wi) ∧
      (∀ base e size v n xs, k < base → wr.ownsRow base e size v n xs → wi.ownsRow base e size v n xs) := by
  obtain ⟨r, j, hd, hr, hj⟩ := h.rune ht hlt
  obtain ⟨h1, h2, h3⟩ := h.next hd
  refine ⟨r, p + j, wr.iterAt k s (p + j), ⟨h1, h2, by omega, (dec1_some hd).1⟩, fun ty => ?_, Lib.iterAt_heap _ _ _ _ _ hit, Lib.iterAt_size _ _ _ _, fun w B hB hb => Lib.below_iterAt hb hB _ _, fun base e size v n xs hk ho => ownsRow_iterAt ho hk _ _⟩
  rw [Lib.run_next_any_at wr k s p ty hit hlt, hr, hj]

theorem encs_len (l : List Int) : l.length ≤ (encs l).length := by
  induction l with
  | nil => simp
  | cons r l ih => have := (enc_ne r).1; simp [encs] at *; omega

theorem info21 : (Try.prog.info? 21).map (fun i => (i.zero, i.size, i.bytes)) = some (some (.int .i32 0), 1, 4) := by kernel_rfl

/-- The runes of a text; of what is none: none. -/
def runesL (l : List UInt8) : List Int := if isText l then (parse l).1 else []

def RunesPost (s : ByteArray) (w : World) (e : Ending) (w' : World) : Prop :=
  ∃ v, e = .returned (.tuple #[v, .int .i64 (chkAt s.data.toList), .int .i64 (chkE s.data.toList)]) ∧
    w'.ownsRow (w.heap.size) 21 1 v (runesL s.data.toList).length ((runesL s.data.toList).map (Value.int .i32)) ∧ Below w.heap.size w w'

theorem ownsRow_base {w : World} {b b' : Nat} {e : TypeId} {size : Nat} {v : Value} {n : Nat} {xs : List Value} (h : w.ownsRow b e size v n xs) (hb : b' ≤ b) : w.ownsRow b' e size v n xs := by
  obtain ⟨h1, h2⟩ := h
  refine ⟨h1, ?_⟩
  rcases h2 with h2 | ⟨g, cap, cur, a, b, c⟩
  · exact .inl h2
  · exact .inr ⟨g, cap, cur, a, by omega, c⟩

theorem ownsRow_nil (w : World) (b : Nat) (e : TypeId) (size : Nat) : w.ownsRow b e size (.slice none 0 0) 0 [] := ⟨by simp, .inl ⟨rfl, rfl⟩⟩

theorem runesPost_fail {s : ByteArray} {w : World} {a c : Int} (ht : isText s.data.toList = false) (ha : a = chkAt s.data.toList) (hc : c = chkE s.data.toList) :
    RunesPost s w (.returned (.tuple #[.slice none 0 0, .int .i64 a, .int .i64 c])) w := by
  subst ha hc
  refine ⟨_, rfl, ?_, Below.refl _ _⟩
  simp only [runesL, ht]
  exact ownsRow_nil _ _ _ _
theorem runesPost_done {s : ByteArray} {w w' : World} {v : Value} {rs : List Int} {a c : Int} (ht : isText s.data.toList = true) (hp : parse s.data.toList = (rs, [])) (ha : a = 0) (hc : c = 0)
    (ho : w'.ownsRow (w.heap.size + 1) 21 1 v rs.length (rs.map (Value.int .i32))) (hb : Below w.heap.size w w') :
    RunesPost s w (.returned (.tuple #[v, .int .i64 a, .int .i64 c])) w' := by
  subst ha hc
  refine ⟨v, ?_, ?_, hb⟩
  · simp [chkAt, chkE, ht]
  · simp only [runesL, ht, hp, if_true]; exact ownsRow_base ho (by omega)

end Go.Proofs.Ytchbpfkjhilgiaa

namespace Go.Proofs.Ytchbpfkjhilgiaa
open Go.RowKit

theorem ret_si {k : IntKind} {s s' : ByteArray} {a a' : Int} (h1 : s = s') (h2 : a = a') :
    Ending.returned (.tuple #[.string s, .int k a]) = .returned (.tuple #[.string s', .int k a']) := by rw [h1, h2]

theorem bytes_ext {s : ByteArray} {l : List UInt8} (h : s.data.toList = l) : s = ⟨l.toArray⟩ := by
  subst h; cases s; simp

def cutE (l : List UInt8) (a b : Int) : Int := if isText l then (if 0 ≤ a ∧ a ≤ b ∧ b ≤ (parse l).1.length then 0 else 1) else 5
def cutL (l : List UInt8) (a b : Int) : List UInt8 := if isText l then (if 0 ≤ a ∧ a ≤ b ∧ b ≤ (parse l).1.length then encs (((parse l).1.drop a.toNat).take (b - a).toNat) else []) else []

theorem AtU3.pre {s : ByteArray} {rs : List Int} {p : Nat} (h : AtU3 s rs p) (ht : isText s.data.toList = true) : rs = (parse s.data.toList).1.take rs.length ∧ rs.length ≤ (parse s.data.toList).1.length := by
  have hp := parse_parsed s.data.toList
  have e1 := isText_iff.1 ht
  have hq := parse_parsed (s.data.toList.drop p)
  have h2 : Parsed s.data.toList (rs ++ (parse (s.data.toList.drop p)).1) (parse (s.data.toList.drop p)).2 := by
    refine ⟨?_, ?_, hq.stop⟩
    · intro x hx
      rcases List.mem_append.1 hx with hx | hx
      · exact h.good x hx
      · exact hq.good x hx
    · have := hq.eq
      rw [encs, List.flatMap_append, List.append_assoc]
      exact h.eq.trans (by rw [encs]; congr 1)
  have h3 := (hp.unique h2).1
  rw [h3]
  simp

theorem encs_append (a b : List Int) : encs (a ++ b) = encs a ++ encs b := by simp [encs]

/-- The place where rune number k of a text begins. -/
def posOf (rs : List Int) (k : Nat) : Nat := (encs (rs.take k)).length

theorem posOf_le (rs : List Int) {j k : Nat} (h : j ≤ k) : posOf rs j ≤ posOf rs k := by
  unfold posOf
  have : rs.take k = rs.take j ++ (rs.take k).drop j := by
    conv => lhs; rw [← List.take_append_drop j (rs.take k)]
    rw [List.take_take, Nat.min_eq_left h]
  rw [this, encs_append, List.length_append]
  omega

theorem extract_encs {s : ByteArray} {rs : List Int} (h : s.data.toList = encs rs) {a b : Nat} (hab : a ≤ b) :
    (s.extract (posOf rs a) (posOf rs b)).data.toList = encs ((rs.drop a).take (b - a)) := by
  have e1 : (s.extract (posOf rs a) (posOf rs b)).data.toList = (s.data.toList.drop (posOf rs a)).take (posOf rs b - posOf rs a) := by
    simp [List.take_drop]
  rw [e1, h]
  have e2 : rs = rs.take a ++ ((rs.drop a).take (b - a) ++ rs.drop b) := by
    conv => lhs; rw [← List.take_append_drop a rs]
    congr 1
    conv => lhs; rw [← List.take_append_drop (b - a) (rs.drop a)]
    rw [List.drop_drop, Nat.add_sub_cancel' hab]
  have e3 : encs rs = encs (rs.take a) ++ (encs ((rs.drop a).take (b - a)) ++ encs (rs.drop b)) := by
    conv => lhs; rw [e2]
    simp [encs]
  have e4 : posOf rs b - posOf rs a = (encs ((rs.drop a).take (b - a))).length := by
    have : rs.take b = rs.take a ++ (rs.drop a).take (b - a) := by
      rw [← List.take_append_drop a (rs.take b), List.take_take, Nat.min_eq_left hab, List.drop_take]
    unfold posOf
    rw [this, encs_append, List.length_append]
    omega
  rw [e4, e3]
  unfold posOf
  rw [List.drop_left, List.take_left]


theorem AtU3.posEq {s : ByteArray} {rs : List Int} {p : Nat} (h : AtU3 s rs p) (ht : isText s.data.toList = true) : p = posOf (parse s.data.toList).1 rs.length := by
  have h1 := (h.pre ht).1
  unfold posOf
  rw [← h1]; exact h.len
theorem posOf_all {s : ByteArray} (ht : isText s.data.toList = true) : posOf (parse s.data.toList).1 (parse s.data.toList).1.length = s.size := by
  have h := isText_iff.1 ht
  have h2 := congrArg List.length h
  unfold posOf
  rw [List.take_length, ← h2]; simp

theorem extract_empty {s : ByteArray} {x y : Nat} (h : y ≤ x) : ByteArray.empty = s.extract x y := by
  apply ByteArray.ext
  simp
  omega

/-- Where Cut's piece begins, k runes having been passed. -/
def beginAt (rs : List Int) (n : Nat) (a k : Nat) : Nat := if a < k then posOf rs a else n

theorem cut_end {s : ByteArray} {a b : Nat} (ht : isText s.data.toList = true) (hab : a ≤ b) (hb : b ≤ (parse s.data.toList).1.length) {x y : Nat}
    (hx : x = posOf (parse s.data.toList).1 a) (hy : y = posOf (parse s.data.toList).1 b) :
    s.extract x y = ⟨(cutL s.data.toList a b).toArray⟩ ∧ cutE s.data.toList a b = 0 := by
  subst hx hy
  constructor
  · apply bytes_ext
    rw [extract_encs (isText_iff.1 ht) hab]
    unfold cutL
    rw [ht, if_pos rfl, if_pos (by omega)]
    congr 2
    omega
  · unfold cutE
    rw [ht, if_pos rfl, if_pos (by omega)]

end Go.Proofs.Ytchbpfkjhilgiaa
