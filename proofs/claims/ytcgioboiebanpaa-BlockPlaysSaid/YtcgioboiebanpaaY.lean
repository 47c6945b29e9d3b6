/- Walks of the functions of utf that go through a text by a range over the string: Count, Runes, Cut. -/
import Derived.Test.YtcgioboiebanpaaW
import Derived.Lib.OthersKept
import Derived.WalkSmall
namespace Go.Proofs.Ytcgioboiebanpaa
open Go.RowKit

theorem get_of {s : ByteArray} {p : Nat} {l t : List UInt8} (h : s.data.toList.drop p = l ++ t) (j : Nat) (hj : j < l.length) : p + j < s.size ∧ s.get! (p + j) = l[j] := by
  have hlen := congrArg List.length h
  simp at hlen
  have hs : p + j < s.size := by omega
  refine ⟨hs, ?_⟩
  have e1 : s.get! (p + j) = s[p + j] := by
    have := get_at s (p + j) hs
    simpa using this
  rw [e1]
  have e2 : (s.data.toList.drop p)[j]? = (l ++ t)[j]? := by rw [h]
  rw [List.getElem?_drop, List.getElem?_append_left hj, List.getElem?_eq_getElem hj, List.getElem?_eq_getElem (by simpa using hs)] at e2
  exact Option.some.inj e2

set_option maxRecDepth 20000 in
/-- The model's own decoding of a rune at a place, where one stands. -/
theorem utf8_of {s : ByteArray} {p : Nat} {r : Int} {k : Nat} (hd : dec1 (s.data.toList.drop p) = some (r, k)) : ((Utf8.decode s p).1 : Int) = r ∧ (Utf8.decode s p).2 = k := by
  obtain ⟨hm, t, ht, rfl⟩ := dec1_some hd
  have hm' := (may_iff r).1 hm
  have g := fun j hj => @get_of s p (enc r) t ht j hj
  clear ht hd
  unfold enc at g ⊢
  by_cases c1 : r < 128
  · rw [if_pos c1] at g ⊢
    have g0 := (g 0 (by simp)).2
    have n0 : (s.get! (p + 0)).toNat = r.toNat := by rw [g0]; exact toNat_of _ (by omega)
    simp only [Utf8.decode, n0]
    rw [if_pos (by omega)]
    exact ⟨by simp; omega, by simp⟩
  rw [if_neg c1] at g ⊢
  by_cases c2 : r < 2048
  · rw [if_pos c2] at g ⊢
    have g0 := (g 0 (by simp)).2
    have g1 := g 1 (by simp)
    have n0 : (s.get! (p + 0)).toNat = 192 + r.toNat / 64 := by rw [g0]; exact toNat_of _ (by omega)
    have n1 : (s.get! (p + 1)).toNat = 128 + r.toNat % 64 := by rw [g1.2]; exact toNat_of _ (by omega)
    simp only [Utf8.decode, n0, n1]
    have hc1 : (decide (p + 1 < s.size) && (128 + r.toNat % 64) / 64 == 2) = true := by simp [g1.1]; omega
    rw [if_neg (by omega), hc1, if_pos (by simp; omega), if_pos (by omega)]
    exact ⟨by simp; omega, by simp⟩
  rw [if_neg c2] at g ⊢
  by_cases c3 : r < 65536
  · rw [if_pos c3] at g ⊢
    have g0 := (g 0 (by simp)).2
    have g1 := g 1 (by simp)
    have g2 := g 2 (by simp)
    have n0 : (s.get! (p + 0)).toNat = 224 + r.toNat / 4096 := by rw [g0]; exact toNat_of _ (by omega)
    have n1 : (s.get! (p + 1)).toNat = 128 + r.toNat / 64 % 64 := by rw [g1.2]; exact toNat_of _ (by omega)
    have n2 : (s.get! (p + 2)).toNat = 128 + r.toNat % 64 := by rw [g2.2]; exact toNat_of _ (by omega)
    simp only [Utf8.decode, n0, n1, n2]
    have hc1 : (decide (p + 1 < s.size) && (128 + r.toNat / 64 % 64) / 64 == 2) = true := by simp [g1.1]; omega
    have hc2 : (decide (p + 2 < s.size) && (128 + r.toNat % 64) / 64 == 2) = true := by simp [g2.1]; omega
    have hv : (224 + r.toNat / 4096) % 16 * 4096 + (128 + r.toNat / 64 % 64) % 64 * 64 + (128 + r.toNat % 64) % 64 = r.toNat := by omega
    have hv2 : Utf8.valid (r.toNat : Int) = true := by simp [Utf8.valid]; omega
    rw [if_neg (by omega), hc1, hc2, if_neg (by simp; omega), if_pos (by simp; omega), hv, hv2, if_pos (by simp; omega)]
    exact ⟨by simp; omega, by simp⟩
  · rw [if_neg c3] at g ⊢
    have g0 := (g 0 (by simp)).2
    have g1 := g 1 (by simp)
    have g2 := g 2 (by simp)
    have g3 := g 3 (by simp)
    have n0 : (s.get! (p + 0)).toNat = 240 + r.toNat / 262144 := by rw [g0]; exact toNat_of _ (by omega)
    have n1 : (s.get! (p + 1)).toNat = 128 + r.toNat / 4096 % 64 := by rw [g1.2]; exact toNat_of _ (by omega)
    have n2 : (s.get! (p + 2)).toNat = 128 + r.toNat / 64 % 64 := by rw [g2.2]; exact toNat_of _ (by omega)
    have n3 : (s.get! (p + 3)).toNat = 128 + r.toNat % 64 := by rw [g3.2]; exact toNat_of _ (by omega)
    simp only [Utf8.decode, n0, n1, n2, n3]
    have hc1 : (decide (p + 1 < s.size) && (128 + r.toNat / 4096 % 64) / 64 == 2) = true := by simp [g1.1]; omega
    have hc2 : (decide (p + 2 < s.size) && (128 + r.toNat / 64 % 64) / 64 == 2) = true := by simp [g2.1]; omega
    have hc3 : (decide (p + 3 < s.size) && (128 + r.toNat % 64) / 64 == 2) = true := by simp [g3.1]; omega
    have hv : (240 + r.toNat / 262144) % 8 * 262144 + (128 + r.toNat / 4096 % 64) % 64 * 4096 + (128 + r.toNat / 64 % 64) % 64 * 64 + (128 + r.toNat % 64) % 64 = r.toNat := by omega
    have hv2 : Utf8.valid (r.toNat : Int) = true := by simp [Utf8.valid]; omega
    rw [if_neg (by omega), hc1, hc2, hc3, if_neg (by simp; omega), if_neg (by simp; omega), if_pos (by simp; omega), hv, hv2, if_pos (by simp; omega)]
    exact ⟨by simp; omega, by simp⟩

/-- In a text, at a place where a rune begins: what stands there. -/
theorem At.rune {s : ByteArray} {rs : List Int} {p : Nat} (h : At s rs p) (ht : isText s.data.toList = true) (hlt : p < s.size) :
    ∃ r k, dec1 (s.data.toList.drop p) = some (r, k) ∧ ((Utf8.decode s p).1 : Int) = r ∧ (Utf8.decode s p).2 = k := by
  cases hd : dec1 (s.data.toList.drop p) with
  | none =>
    have hp := h.fail hd
    unfold isText at ht
    rw [hp] at ht
    simp at ht
    omega
  | some rk =>
    obtain ⟨r, k⟩ := rk
    obtain ⟨h1, h2⟩ := utf8_of hd
    exact ⟨r, k, rfl, h1, h2⟩

set_option maxHeartbeats 1000000 in
set_option maxRecDepth 100000 in
theorem count_any (s : ByteArray) (hs : s.size ≤ maxLen) (w : World) :
    Calls Try.prog 47 #[.string s] w fun e w' => e = .returned (.tuple #[.int .i64 (cntN s.data.toList), .int .i64 (chkE s.data.toList)]) ∧ Below w.heap.size w w' := by
  have hS := Lib.hid hs
  unfold maxLen at hs
  cases ht : isText s.data.toList with
  | false =>
    have he : chkE s.data.toList = 5 := by simp [chkE, ht]
    have hn : cntN s.data.toList = 0 := by simp [cntN, ht]
    rw [hn]
    have HE := Lib.hid he
    clear he hn ht
    go_enter Try.func47, Try.ntmps47
    go_wp2_with fail
    refine (check_any s hS.out _).mono ?_
    rintro e w' ⟨rfl, rfl⟩
    rw [HE.out]
    go_wp2
    go_ret2
    exact ⟨ret_ii rfl HE.out.symm, Below.refl _ _⟩
  | true =>
    have he : chkE s.data.toList = 0 := by simp [chkE, ht]
    have hn : cntN s.data.toList = (parse s.data.toList).1.length := by simp [cntN, ht]
    have HE := Lib.hid he
    have HN := Lib.hid hn
    have HT := Lib.hid ht
    clear he hn ht
    rw [HE.out, HN.out]
    go_enter Try.func47, Try.ntmps47
    go_wp2_with fail
    refine (check_any s hS.out _).mono ?_
    rintro e w' ⟨rfl, rfl⟩
    rw [HE.out]
    go_wp2
    go_loopw [6] (fun n wr => ∃ (rs : List Int) (p : Nat), At s rs p ∧ n = .int .i64 rs.length ∧ wr.heap[w.heap.size]? = some (.stringIter s p) ∧ Below w.heap.size w wr) (fun _ wr => s.size - wr.iterPos w.heap.size)
    case atStart =>
      exact ⟨[], 0, At.zero s, rfl, World.iter_heap w s 0, (Below.refl _ w).alloc (Nat.le_refl _) _⟩
    case round =>
      obtain ⟨rs, p, ha, rfl, hit, hbw⟩ := hrel
      have hle := ha.le
      have hrl : rs.length ≤ p := by
        have := ha.len
        have h2 : ∀ l : List Int, l.length ≤ (encs l).length := fun l => by
          induction l with
          | nil => simp
          | cons r l ih => have := (enc_ne r).1; simp [encs] at *; omega
        have := h2 rs
        omega
      by_cases hlt : p < s.size
      · obtain ⟨r, k, hd, hr, hk⟩ := ha.rune HT.out hlt
        have hnx : ∀ ty, (Instr.next (.pointer (some ⟨w.heap.size, 0, none⟩)) true ty).run Try.prog wr = _ := fun ty => Lib.run_next_any_at wr w.heap.size s p ty hit hlt
        have hit2 := Lib.iterAt_heap wr w.heap.size s p (p + (Utf8.decode s p).2) hit
        have hbw2 := Lib.below_iterAt hbw (k := w.heap.size) (Nat.le_refl _) s (p + (Utf8.decode s p).2)
        have hn := Lib.hid (ha.next hd)
        have HK := Lib.hid hk
        have HI := Lib.hid hit2
        have HI1 := Lib.hid hit
        clear hd hr hk hit2 hit
        go_wp2
        have hm := hn.out
        go_roundw
        case rel => exact ⟨rs ++ [r], p + k, hm.1, by simp, by rw [← HK.out]; exact HI.out, hbw2⟩
        case measure =>
          simp only [World.iterPos, HI.out, HI1.out]
          have := HK.out
          omega
      · have hnx : ∀ ty, (Instr.next (.pointer (some ⟨w.heap.size, 0, none⟩)) true ty).run Try.prog wr = _ := fun ty => Lib.run_next_end_at wr w.heap.size s p ty hit hlt
        have hp := Lib.hid (ha.done (by omega))
        clear hit
        go_wp2
        go_ret2
        exact ⟨ret_ii (by rw [hp.out]) rfl, hbw⟩


/-- 'next' at a place in a text where a rune begins: the world behind it. -/
theorem At.next_run {s : ByteArray} {rs : List Int} {p : Nat} (h : At s rs p) (ht : isText s.data.toList = true) (hlt : p < s.size) {wr : World} {k : Nat}
    (hit : wr.heap[k]? = some (.stringIter s p)) :
    ∃ (r : Int) (p' : Nat) (wi : World), (At s (rs ++ [r]) p' ∧ p' ≤ s.size ∧ p < p' ∧ may r = true) ∧
      (∀ ty, (Instr.next (.pointer (some ⟨k, 0, none⟩)) true ty).run Try.prog wr = .ok (.tuple #[.bool true, .int .i64 p, .int .i32 r]) wi) ∧
      wi.heap[k]? = some (.stringIter s p') ∧ wi.heap.size = wr.heap.size ∧ (∀ (w : World) (B : Nat), B ≤ k → Below B w wr → Below B w wi) ∧
      (∀ base e size v n xs, k < base → wr.ownsRow base e size v n xs → wi.ownsRow base e size v n xs) := by
  obtain ⟨r, j, hd, hr, hj⟩ := h.rune ht hlt
  obtain ⟨h1, h2, h3⟩ := h.next hd
  refine ⟨r, p + j, wr.iterAt k s (p + j), ⟨h1, h2, by omega, (dec1_some hd).1⟩, fun ty => ?_, Lib.iterAt_heap _ _ _ _ _ hit, Lib.iterAt_size _ _ _ _, fun w B hB hb => Lib.below_iterAt hb hB _ _, fun base e size v n xs hk ho => ownsRow_iterAt ho hk _ _⟩
  rw [Lib.run_next_any_at wr k s p ty hit hlt, hr, hj]

theorem encs_len (l : List Int) : l.length ≤ (encs l).length := by
  induction l with
  | nil => simp
  | cons r l ih => have := (enc_ne r).1; simp [encs] at *; omega

theorem info21 : (Try.prog.info? 21).map (fun i => (i.zero, i.size, i.bytes)) = some (some (.int .i32 0), 1, 4) := by kernel_rfl

/-- The runes of a text; of what is none: none. -/
def runesL (l : List UInt8) : List Int := if isText l then (parse l).1 else []

def RunesPost (s : ByteArray) (w : World) (e : Ending) (w' : World) : Prop :=
  ∃ v, e = .returned (.tuple #[v, .int .i64 (chkAt s.data.toList), .int .i64 (chkE s.data.toList)]) ∧
    w'.ownsRow (w.heap.size) 21 1 v (runesL s.data.toList).length ((runesL s.data.toList).map (Value.int .i32)) ∧ Below w.heap.size w w'

theorem ownsRow_base {w : World} {b b' : Nat} {e : TypeId} {size : Nat} {v : Value} {n : Nat} {xs : List Value} (h : w.ownsRow b e size v n xs) (hb : b' ≤ b) : w.ownsRow b' e size v n xs := by
  obtain ⟨h1, h2⟩ := h
  refine ⟨h1, ?_⟩
  rcases h2 with h2 | ⟨g, cap, cur, a, b, c⟩
  · exact .inl h2
  · exact .inr ⟨g, cap, cur, a, by omega, c⟩

theorem ownsRow_nil (w : World) (b : Nat) (e : TypeId) (size : Nat) : w.ownsRow b e size (.slice none 0 0) 0 [] := ⟨by simp, .inl ⟨rfl, rfl⟩⟩

theorem runesPost_fail {s : ByteArray} {w : World} {a c : Int} (ht : isText s.data.toList = false) (ha : a = chkAt s.data.toList) (hc : c = chkE s.data.toList) :
    RunesPost s w (.returned (.tuple #[.slice none 0 0, .int .i64 a, .int .i64 c])) w := by
  subst ha hc
  refine ⟨_, rfl, ?_, Below.refl _ _⟩
  simp only [runesL, ht]
  exact ownsRow_nil _ _ _ _
theorem runesPost_done {s : ByteArray} {w w' : World} {v : Value} {rs : List Int} {a c : Int} (ht : isText s.data.toList = true) (hp : parse s.data.toList = (rs, [])) (ha : a = 0) (hc : c = 0)
    (ho : w'.ownsRow (w.heap.size + 1) 21 1 v rs.length (rs.map (Value.int .i32))) (hb : Below w.heap.size w w') :
    RunesPost s w (.returned (.tuple #[v, .int .i64 a, .int .i64 c])) w' := by
  subst ha hc
  refine ⟨v, ?_, ?_, hb⟩
  · simp [chkAt, chkE, ht]
  · simp only [runesL, ht, hp, if_true]; exact ownsRow_base ho (by omega)

set_option maxHeartbeats 1000000 in
set_option maxRecDepth 100000 in
theorem runes_any (s : ByteArray) (hs : s.size ≤ maxLen) (hreach : s.size * 4 ≤ 140737488351232) (w : World) :
    Calls Try.prog 26 #[.string s] w (RunesPost s w) := by
  have hS := Lib.hid hs
  unfold maxLen at hs
  obtain ⟨i0, hi, hz0, hz1, hz2⟩ := info_parts info21
  cases ht : isText s.data.toList with
  | false =>
    have he : chkE s.data.toList = 5 := by simp [chkE, ht]
    have HE := Lib.hid he
    have HT := Lib.hid ht
    clear he ht hi hz0 hz1 hz2
    go_enter Try.func26, Try.ntmps26
    go_wp2_with fail
    refine (check_any s hS.out _).mono ?_
    rintro e w' ⟨rfl, rfl⟩
    rw [HE.out]
    go_wp2
    go_ret3
    exact runesPost_fail HT.out rfl HE.out.symm
  | true =>
    have he : chkE s.data.toList = 0 := by simp [chkE, ht]
    have HE := Lib.hid he
    have HT := Lib.hid ht
    clear he ht
    go_enter Try.func26, Try.ntmps26
    go_wp2_with fail
    refine (check_any s hS.out _).mono ?_
    rintro e w' ⟨rfl, rfl⟩
    rw [HE.out]
    go_wp2
    go_loopw [7] (fun v wr => ∃ (rs : List Int) (p : Nat), At s rs p ∧ wr.ownsRow (w.heap.size + 1) 21 1 v rs.length (rs.map (Value.int .i32)) ∧ wr.heap[w.heap.size]? = some (.stringIter s p) ∧ Below w.heap.size w wr) (fun _ wr => s.size - wr.iterPos w.heap.size)
    case atStart =>
      exact ⟨[], 0, At.zero s, ownsRow_nil _ _ _ _, World.iter_heap w s 0, (Below.refl _ w).alloc (Nat.le_refl _) _⟩
    case round =>
      obtain ⟨rs, p, ha, hown, hit, hbw⟩ := hrel
      have hle := ha.le
      have hsz : w.heap.size < wr.heap.size := (Array.getElem?_eq_some_iff.1 hit).1
      have hrl : rs.length ≤ p := by
        have := ha.len
        have := encs_len rs
        omega
      have HI1 := Lib.hid hit
      by_cases hlt : p < s.size
      · obtain ⟨r, p', wi, hat, hnx, hit2, hsz2, hbl, hrow⟩ := ha.next_run HT.out hlt hit
        have hbw2 := hbl _ _ (Nat.le_refl _) hbw
        have hown2 := hrow _ _ _ _ _ _ (by omega) hown
        have HI := Lib.hid hit2
        have HA := Lib.hid hat
        have hszi : w.heap.size < wi.heap.size := by omega
        clear hit hit2 hat hbl hrow hsz2 hown
        go_wp2_with (at_builtin; refine wpList_append_own _ rfl _ _ 60 rfl (w.heap.size + 1) 21 i0 (.int .i32 0) 1 4 Try.underlying60 hi hz0 hz1 hz2 rfl (by decide) _ _ _ rfl (hown2.alloc _) ⟨wi.heap.size, 0, none⟩ 1 1 [.int .i32 r] rfl rfl ?c1 ?c2 ?c3 ?c4 ?c5 ?_)
        case c1 => exact cell_one_new _ _ _
        case c2 => simp [Value.oneCell']
        case c3 => unfold maxLen; omega
        case c4 => omega
        case c5 => simp; omega
        intro v' w1 hown' hgrow _
        go_wp2
        have hne : some w.heap.size ≠ u7.ownBlock := fun h => by have := hown2.lt w.heap.size h.symm; omega
        have hit3 : w1.heap[w.heap.size]? = some (.stringIter s p') := by
          rw [hgrow.block _ (by simp; omega) hne]
          exact (Below.heap_alloc _ _ _ hszi).trans HI.out
        go_roundw
        case rel =>
          refine ⟨rs ++ [r], p', HA.out.1, ?_, hit3, (hbw2.alloc (by omega) _).grown hgrow (by simp; omega) (fun j hj => by have := (hown2.lt j hj).1; omega)⟩
          simpa using hown'
        case measure =>
          simp only [World.iterPos, hit3, HI1.out]
          have := HA.out
          omega
      · have hnx : ∀ ty, (Instr.next (.pointer (some ⟨w.heap.size, 0, none⟩)) true ty).run Try.prog wr = _ := fun ty => Lib.run_next_end_at wr w.heap.size s p ty hit hlt
        have hp := Lib.hid (ha.done (by omega))
        clear hit
        go_wp2
        go_ret3
        exact runesPost_done HT.out hp.out rfl rfl hown hbw

end Go.Proofs.Ytcgioboiebanpaa

namespace Go.Proofs.Ytcgioboiebanpaa
open Go.RowKit

theorem ret_si {k : IntKind} {s s' : ByteArray} {a a' : Int} (h1 : s = s') (h2 : a = a') :
    Ending.returned (.tuple #[.string s, .int k a]) = .returned (.tuple #[.string s', .int k a']) := by rw [h1, h2]

theorem bytes_ext {s : ByteArray} {l : List UInt8} (h : s.data.toList = l) : s = ⟨l.toArray⟩ := by
  subst h; cases s; simp

def cutE (l : List UInt8) (a b : Int) : Int := if isText l then (if 0 ≤ a ∧ a ≤ b ∧ b ≤ (parse l).1.length then 0 else 1) else 5
def cutL (l : List UInt8) (a b : Int) : List UInt8 := if isText l then (if 0 ≤ a ∧ a ≤ b ∧ b ≤ (parse l).1.length then encs (((parse l).1.drop a.toNat).take (b - a).toNat) else []) else []

theorem At.pre {s : ByteArray} {rs : List Int} {p : Nat} (h : At s rs p) (ht : isText s.data.toList = true) : rs = (parse s.data.toList).1.take rs.length ∧ rs.length ≤ (parse s.data.toList).1.length := by
  have hp := parse_parsed s.data.toList
  have e1 := isText_iff.1 ht
  have hq := parse_parsed (s.data.toList.drop p)
  have h2 : Parsed s.data.toList (rs ++ (parse (s.data.toList.drop p)).1) (parse (s.data.toList.drop p)).2 := by
    refine ⟨?_, ?_, hq.stop⟩
    · intro x hx
      rcases List.mem_append.1 hx with hx | hx
      · exact h.good x hx
      · exact hq.good x hx
    · have := hq.eq
      rw [encs, List.flatMap_append, List.append_assoc]
      exact h.eq.trans (by rw [encs]; congr 1)
  have h3 := (hp.unique h2).1
  rw [h3]
  simp

theorem encs_append (a b : List Int) : encs (a ++ b) = encs a ++ encs b := by simp [encs]

/-- The place where rune number k of a text begins. -/
def posOf (rs : List Int) (k : Nat) : Nat := (encs (rs.take k)).length

theorem posOf_le (rs : List Int) {j k : Nat} (h : j ≤ k) : posOf rs j ≤ posOf rs k := by
  unfold posOf
  have : rs.take k = rs.take j ++ (rs.take k).drop j := by
    conv => lhs; rw [← List.take_append_drop j (rs.take k)]
    rw [List.take_take, Nat.min_eq_left h]
  rw [this, encs_append, List.length_append]
  omega

theorem extract_encs {s : ByteArray} {rs : List Int} (h : s.data.toList = encs rs) {a b : Nat} (hab : a ≤ b) :
    (s.extract (posOf rs a) (posOf rs b)).data.toList = encs ((rs.drop a).take (b - a)) := by
  have e1 : (s.extract (posOf rs a) (posOf rs b)).data.toList = (s.data.toList.drop (posOf rs a)).take (posOf rs b - posOf rs a) := by
    simp [List.take_drop]
  rw [e1, h]
  have e2 : rs = rs.take a ++ ((rs.drop a).take (b - a) ++ rs.drop b) := by
    conv => lhs; rw [← List.take_append_drop a rs]
    congr 1
    conv => lhs; rw [← List.take_append_drop (b - a) (rs.drop a)]
    rw [List.drop_drop, Nat.add_sub_cancel' hab]
  have e3 : encs rs = encs (rs.take a) ++ (encs ((rs.drop a).take (b - a)) ++ encs (rs.drop b)) := by
    conv => lhs; rw [e2]
    simp [encs]
  have e4 : posOf rs b - posOf rs a = (encs ((rs.drop a).take (b - a))).length := by
    have : rs.take b = rs.take a ++ (rs.drop a).take (b - a) := by
      rw [← List.take_append_drop a (rs.take b), List.take_take, Nat.min_eq_left hab, List.drop_take]
    unfold posOf
    rw [this, encs_append, List.length_append]
    omega
  rw [e4, e3]
  unfold posOf
  rw [List.drop_left, List.take_left]


theorem At.posEq {s : ByteArray} {rs : List Int} {p : Nat} (h : At s rs p) (ht : isText s.data.toList = true) : p = posOf (parse s.data.toList).1 rs.length := by
  have h1 := (h.pre ht).1
  unfold posOf
  rw [← h1]; exact h.len
theorem posOf_all {s : ByteArray} (ht : isText s.data.toList = true) : posOf (parse s.data.toList).1 (parse s.data.toList).1.length = s.size := by
  have h := isText_iff.1 ht
  have h2 := congrArg List.length h
  unfold posOf
  rw [List.take_length, ← h2]; simp

theorem extract_empty {s : ByteArray} {x y : Nat} (h : y ≤ x) : ByteArray.empty = s.extract x y := by
  apply ByteArray.ext
  simp
  omega

/-- Where Cut's piece begins, k runes having been passed. -/
def beginAt (rs : List Int) (n : Nat) (a k : Nat) : Nat := if a < k then posOf rs a else n

theorem cut_end {s : ByteArray} {a b : Nat} (ht : isText s.data.toList = true) (hab : a ≤ b) (hb : b ≤ (parse s.data.toList).1.length) {x y : Nat}
    (hx : x = posOf (parse s.data.toList).1 a) (hy : y = posOf (parse s.data.toList).1 b) :
    s.extract x y = ⟨(cutL s.data.toList a b).toArray⟩ ∧ cutE s.data.toList a b = 0 := by
  subst hx hy
  constructor
  · apply bytes_ext
    rw [extract_encs (isText_iff.1 ht) hab]
    unfold cutL
    rw [ht, if_pos rfl, if_pos (by omega)]
    congr 2
    omega
  · unfold cutE
    rw [ht, if_pos rfl, if_pos (by omega)]

set_option maxHeartbeats 1000000 in
set_option maxRecDepth 100000 in
theorem cut_good (s : ByteArray) (hs : s.size ≤ maxLen) (a b : Nat) (ht : isText s.data.toList = true) (hab : a ≤ b) (hb : b ≤ (parse s.data.toList).1.length) (w : World) :
    Calls Try.prog 25 #[.string s, .int .i64 a, .int .i64 b] w fun e w' => e = .returned (.tuple #[.string ⟨(cutL s.data.toList a b).toArray⟩, .int .i64 0]) ∧ Below w.heap.size w w' := by
  have hS := Lib.hid hs
  unfold maxLen at hs
  have he : chkE s.data.toList = 0 := by simp [chkE, ht]
  have hn : cntN s.data.toList = (parse s.data.toList).1.length := by simp [cntN, ht]
  have hall := Lib.hid (posOf_all ht)
  have hN : (parse s.data.toList).1.length ≤ s.size := by
    have h1 := congrArg List.length (isText_iff.1 ht)
    have := encs_len (parse s.data.toList).1
    simp at h1
    omega
  have HT := Lib.hid ht
  have HE := Lib.hid he
  have HN := Lib.hid hn
  have hce := Lib.hid (fun x y => @cut_end s a b ht hab hb x y)
  have hpe := Lib.hid (fun rs p h => @At.posEq s rs p h ht)
  have hpr := Lib.hid (fun rs p h => (@At.pre s rs p h ht).2)
  have hpl := Lib.hid (fun j k => @posOf_le (parse s.data.toList).1 j k)
  have Hdone := Lib.hid (fun rs p (h : At s rs p) hd => @At.done s rs p h hd)
  have hd2 := Lib.hid (fun rs (h : parse s.data.toList = (rs, [])) => show (parse s.data.toList).1 = rs by rw [h])
  clear he hn ht
  generalize (parse s.data.toList).1 = all at *
  go_enter Try.func25, Try.ntmps25
  go_wp2_with fail
  refine (count_any s hS.out _).mono ?_
  rintro e w1 ⟨rfl, hbw1⟩
  rw [HE.out, HN.out]
  have hsz1 := hbw1.size
  go_wp2_with fail
  go_loopw [10, 11, 12] (fun be en kk wr => ∃ (rs : List Int) (p : Nat), At s rs p ∧ rs.length ≤ b ∧ kk = .int .i64 rs.length ∧ be = .int .i64 (beginAt all s.size a rs.length) ∧ en = .int .i64 s.size ∧ wr.heap[w1.heap.size]? = some (.stringIter s p) ∧ Below w.heap.size w wr) (fun _ _ _ wr => s.size - wr.iterPos w1.heap.size)
  case atStart =>
    exact ⟨[], 0, At.zero s, by simp, rfl, by simp [beginAt], rfl, World.iter_heap w1 s 0, hbw1.alloc hsz1 _⟩
  case round =>
    obtain ⟨rs, p, ha, hkb, rfl, rfl, rfl, hit, hbw⟩ := hrel
    have hle := ha.le
    have hrl : rs.length ≤ p := by
      have := ha.len
      have := encs_len rs
      omega
    have HI1 := Lib.hid hit
    have hpp := Lib.hid (hpe.out rs p ha)
    by_cases hlt : p < s.size
    · obtain ⟨r, p', wi, hat, hnx, hit2, hsz2, hbl, _⟩ := ha.next_run HT.out hlt hit
      have hbw2 := hbl _ _ hsz1 hbw
      have HI := Lib.hid hit2
      have HA := Lib.hid hat
      have hlen2 := hpr.out _ _ hat.1
      clear hit hit2 hat hbl hsz2
      simp only [List.length_append, List.length_singleton] at hlen2
      by_cases hka : rs.length = a
      · have hB : beginAt all s.size a rs.length = s.size := by simp [beginAt]; omega
        have hB1 : beginAt all s.size a (rs.length + 1) = p := by
          unfold beginAt; rw [if_pos (by omega), hpp.out, hka]
        have HB1 := Lib.hid hB1
        have hka1 : ((rs.length : Int) == (a : Int)) = true := by simp; omega
        have HKA := Lib.hid hka
        rw [hB]
        clear hB hB1 hka
        by_cases hkb2 : rs.length = b
        · have hkb1 : ((rs.length : Int) == (b : Int)) = true := by simp; omega
          have HKB := Lib.hid hkb2
          clear hkb2
          go_wp2
          go_ret2
          refine ⟨ret_si ?_ rfl, hbw2⟩
          exact (extract_empty (Nat.le_refl p)).trans (hce.out p p (by rw [← HKA.out]; exact hpp.out) (by rw [← HKB.out]; exact hpp.out)).1
        · have hkb1 : ((rs.length : Int) == (b : Int)) = false := by simp; omega
          have hkb3 : rs.length < b := by omega
          clear hkb2
          go_wp2
          go_roundw
          case rel => exact ⟨rs ++ [r], p', HA.out.1, by simp; omega, by simp, by simp [HB1.out], rfl, HI.out, hbw2⟩
          case measure =>
            simp only [World.iterPos, HI.out, HI1.out]
            have := HA.out
            omega
      · have hB1 : beginAt all s.size a (rs.length + 1) = beginAt all s.size a rs.length := by
          unfold beginAt
          by_cases h : a < rs.length
          · rw [if_pos h, if_pos (by omega)]
          · rw [if_neg h, if_neg (by omega)]
        have HB1 := Lib.hid hB1
        have hka1 : ((rs.length : Int) == (a : Int)) = false := by simp; omega
        clear hB1
        by_cases hkb2 : rs.length = b
        · have hkb1 : ((rs.length : Int) == (b : Int)) = true := by simp; omega
          have HKB := Lib.hid hkb2
          have hle2 : posOf all a ≤ p := by rw [hpp.out]; exact hpl.out _ _ (by omega)
          have hB : beginAt all s.size a rs.length = posOf all a := by unfold beginAt; rw [if_pos (by omega)]
          rw [hB]
          clear hkb2 hB
          go_wp2
          all_goals
            go_ret2
            refine ⟨ret_si ?_ rfl, hbw2⟩
            exact (hce.out _ _ rfl (by rw [← HKB.out]; exact hpp.out)).1
        · have hkb1 : ((rs.length : Int) == (b : Int)) = false := by simp; omega
          have hkb3 : rs.length < b := by omega
          clear hkb2
          go_wp2
          go_roundw
          case rel => exact ⟨rs ++ [r], p', HA.out.1, by simp; omega, by simp, by simp [HB1.out], rfl, HI.out, hbw2⟩
          case measure =>
            simp only [World.iterPos, HI.out, HI1.out]
            have := HA.out
            omega
    · have hnx : ∀ ty, (Instr.next (.pointer (some ⟨w1.heap.size, 0, none⟩)) true ty).run Try.prog wr = _ := fun ty => Lib.run_next_end_at wr w1.heap.size s p ty hit hlt
      have hd := Hdone.out rs p ha (by omega)
      have hp := Lib.hid hd
      have hrsall : rs.length = all.length := by rw [hd2.out rs hd]
      have hbx : beginAt all s.size a rs.length = posOf all a := by
        unfold beginAt
        split
        · rfl
        · rw [← hall.out]; congr 1; omega
      have hby : s.size = posOf all b := by rw [← hall.out]; congr 1; omega
      have HBX := Lib.hid hbx
      have HBY := Lib.hid hby
      clear hit hd hrsall hbx hby
      go_wp2
      all_goals
        go_ret2
        refine ⟨ret_si ?_ rfl, hbw⟩
        first
        | exact (hce.out _ _ HBX.out HBY.out).1
        | exact (extract_empty (by omega)).trans (hce.out _ _ HBX.out HBY.out).1

set_option maxHeartbeats 400000 in
set_option maxRecDepth 100000 in
theorem cut_any (s : ByteArray) (a b : Int) (hs : s.size ≤ maxLen) (w : World) :
    Calls Try.prog 25 #[.string s, .int .i64 a, .int .i64 b] w fun e w' => e = .returned (.tuple #[.string ⟨(cutL s.data.toList a b).toArray⟩, .int .i64 (cutE s.data.toList a b)]) ∧ Below w.heap.size w w' := by
  have hS := Lib.hid hs
  unfold maxLen at hs
  cases ht : isText s.data.toList with
  | false =>
    have he : chkE s.data.toList = 5 := by simp [chkE, ht]
    have hn : cntN s.data.toList = 0 := by simp [cntN, ht]
    have hl : cutL s.data.toList a b = [] := by simp [cutL, ht]
    have hc : cutE s.data.toList a b = 5 := by simp [cutE, ht]
    rw [hl, hc]
    have HE := Lib.hid he
    have HN := Lib.hid hn
    clear he hn ht hl hc
    go_enter Try.func25, Try.ntmps25
    go_wp2_with fail
    refine (count_any s hS.out _).mono ?_
    rintro e w1 ⟨rfl, hbw1⟩
    rw [HE.out, HN.out]
    go_wp2
    go_ret2
    exact ⟨rfl, hbw1⟩
  | true =>
    by_cases hok : 0 ≤ a ∧ a ≤ b ∧ b ≤ (parse s.data.toList).1.length
    · obtain ⟨h0, h1, h2⟩ := hok
      have hc : cutE s.data.toList a b = 0 := by unfold cutE; rw [ht, if_pos rfl, if_pos ⟨h0, h1, h2⟩]
      rw [hc]
      obtain ⟨n, rfl⟩ := Int.eq_ofNat_of_zero_le h0
      obtain ⟨m, rfl⟩ := Int.eq_ofNat_of_zero_le (show 0 ≤ b by omega)
      exact cut_good s hS.out n m ht (by omega) (by omega) w
    · have he : chkE s.data.toList = 0 := by simp [chkE, ht]
      have hn : cntN s.data.toList = (parse s.data.toList).1.length := by simp [cntN, ht]
      have hl : cutL s.data.toList a b = [] := by unfold cutL; rw [ht, if_pos rfl, if_neg hok]
      have hc : cutE s.data.toList a b = 1 := by unfold cutE; rw [ht, if_pos rfl, if_neg hok]
      rw [hl, hc]
      have HE := Lib.hid he
      have HN := Lib.hid hn
      clear he hn ht hl hc
      generalize ((parse s.data.toList).1.length : Int) = n at *
      by_cases h0 : a < 0
      · clear hok
        go_enter Try.func25, Try.ntmps25
        go_wp2_with fail
        refine (count_any s hS.out _).mono ?_
        rintro e w1 ⟨rfl, hbw1⟩
        rw [HE.out, HN.out]
        go_wp2
        go_ret2
        exact ⟨rfl, hbw1⟩
      · by_cases h1 : b < a
        · clear hok
          go_enter Try.func25, Try.ntmps25
          go_wp2_with fail
          refine (count_any s hS.out _).mono ?_
          rintro e w1 ⟨rfl, hbw1⟩
          rw [HE.out, HN.out]
          go_wp2
          go_ret2
          exact ⟨rfl, hbw1⟩
        · have h2 : n < b := by omega
          clear hok
          go_enter Try.func25, Try.ntmps25
          go_wp2_with fail
          refine (count_any s hS.out _).mono ?_
          rintro e w1 ⟨rfl, hbw1⟩
          rw [HE.out, HN.out]
          go_wp2
          go_ret2
          exact ⟨rfl, hbw1⟩

end Go.Proofs.Ytcgioboiebanpaa
