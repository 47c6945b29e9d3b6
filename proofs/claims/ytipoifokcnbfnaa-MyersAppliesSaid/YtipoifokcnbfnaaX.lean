/- Walks of the functions of utf that go through a text by a range over the string: Count, Runes, Cut. -/
import Derived.Test.YtipoifokcnbfnaaW
import Derived.Lib.OthersKept
import Derived.WalkSmall
namespace Go.Proofs.Ytipoifokcnbfnaa
open Go.RowKit

theorem get_of {s : ByteArray} {p : Nat} {l t : List UInt8} (h : s.data.toList.drop p = l ++ t) (j : Nat) (hj : j < l.length) : p + j < s.size ∧ s.get! (p + j) = l[j] := by
  have hlen := congrArg List.length h
  simp at hlen
  have hs : p + j < s.size := by omega
  refine ⟨hs, ?_⟩
  have e1 : s.get! (p + j) = s[p + j] := by
    have := get_at s (p + j) hs
    simpa using this
  rw [e1]
  have e2 : (s.data.toList.drop p)[j]? = (l ++ t)[j]? := by rw [h]
  rw [List.getElem?_drop, List.getElem?_append_left hj, List.getElem?_eq_getElem hj, List.getElem?_eq_getElem (by simpa using hs)] at e2
  exact Option.some.inj e2

set_option maxRecDepth 20000 in
/-- The model's own decoding of a rune at a place, where one stands. -/
theorem utf8_of {s : ByteArray} {p : Nat} {r : Int} {k : Nat} (hd : dec1 (s.data.toList.drop p) = some (r, k)) : ((Utf8.decode s p).1 : Int) = r ∧ (Utf8.decode s p).2 = k := by
  obtain ⟨hm, t, ht, rfl⟩ := dec1_some hd
  have hm' := (may_iff r).1 hm
  have g := fun j hj => @get_of s p (enc r) t ht j hj
  clear ht hd
  unfold enc at g ⊢
  by_cases c1 : r < 128
  · rw [if_pos c1] at g ⊢
    have g0 := (g 0 (by simp)).2
    have n0 : (s.get! (p + 0)).toNat = r.toNat := by rw [g0]; exact toNat_of _ (by omega)
    simp only [Utf8.decode, n0]
    rw [if_pos (by omega)]
    exact ⟨by simp; omega, by simp⟩
  rw [if_neg c1] at g ⊢
  by_cases c2 : r < 2048
  · rw [if_pos c2] at g ⊢
    have g0 := (g 0 (by simp)).2
    have g1 := g 1 (by simp)
    have n0 : (s.get! (p + 0)).toNat = 192 + r.toNat / 64 := by rw [g0]; exact toNat_of _ (by omega)
    have n1 : (s.get! (p + 1)).toNat = 128 + r.toNat % 64 := by rw [g1.2]; exact toNat_of _ (by omega)
    simp only [Utf8.decode, n0, n1]
    have hc1 : (decide (p + 1 < s.size) && (128 + r.toNat % 64) / 64 == 2) = true := by simp [g1.1]; omega
    rw [if_neg (by omega), hc1, if_pos (by simp; omega), if_pos (by omega)]
    exact ⟨by simp; omega, by simp⟩
  rw [if_neg c2] at g ⊢
  by_cases c3 : r < 65536
  · rw [if_pos c3] at g ⊢
    have g0 := (g 0 (by simp)).2
    have g1 := g 1 (by simp)
    have g2 := g 2 (by simp)
    have n0 : (s.get! (p + 0)).toNat = 224 + r.toNat / 4096 := by rw [g0]; exact toNat_of _ (by omega)
    have n1 : (s.get! (p + 1)).toNat = 128 + r.toNat / 64 % 64 := by rw [g1.2]; exact toNat_of _ (by omega)
    have n2 : (s.get! (p + 2)).toNat = 128 + r.toNat % 64 := by rw [g2.2]; exact toNat_of _ (by omega)
    simp only [Utf8.decode, n0, n1, n2]
    have hc1 : (decide (p + 1 < s.size) && (128 + r.toNat / 64 % 64) / 64 == 2) = true := by simp [g1.1]; omega
    have hc2 : (decide (p + 2 < s.size) && (128 + r.toNat % 64) / 64 == 2) = true := by simp [g2.1]; omega
    have hv : (224 + r.toNat / 4096) % 16 * 4096 + (128 + r.toNat / 64 % 64) % 64 * 64 + (128 + r.toNat % 64) % 64 = r.toNat := by omega
    have hv2 : Utf8.valid (r.toNat : Int) = true := by simp [Utf8.valid]; omega
    rw [if_neg (by omega), hc1, hc2, if_neg (by simp; omega), if_pos (by simp; omega), hv, hv2, if_pos (by simp; omega)]
    exact ⟨by simp; omega, by simp⟩
  · rw [if_neg c3] at g ⊢
    have g0 := (g 0 (by simp)).2
    have g1 := g 1 (by simp)
    have g2 := g 2 (by simp)
    have g3 := g 3 (by simp)
    have n0 : (s.get! (p + 0)).toNat = 240 + r.toNat / 262144 := by rw [g0]; exact toNat_of _ (by omega)
    have n1 : (s.get! (p + 1)).toNat = 128 + r.toNat / 4096 % 64 := by rw [g1.2]; exact toNat_of _ (by omega)
    have n2 : (s.get! (p + 2)).toNat = 128 + r.toNat / 64 % 64 := by rw [g2.2]; exact toNat_of _ (by omega)
    have n3 : (s.get! (p + 3)).toNat = 128 + r.toNat % 64 := by rw [g3.2]; exact toNat_of _ (by omega)
    simp only [Utf8.decode, n0, n1, n2, n3]
    have hc1 : (decide (p + 1 < s.size) && (128 + r.toNat / 4096 % 64) / 64 == 2) = true := by simp [g1.1]; omega
    have hc2 : (decide (p + 2 < s.size) && (128 + r.toNat / 64 % 64) / 64 == 2) = true := by simp [g2.1]; omega
    have hc3 : (decide (p + 3 < s.size) && (128 + r.toNat % 64) / 64 == 2) = true := by simp [g3.1]; omega
    have hv : (240 + r.toNat / 262144) % 8 * 262144 + (128 + r.toNat / 4096 % 64) % 64 * 4096 + (128 + r.toNat / 64 % 64) % 64 * 64 + (128 + r.toNat % 64) % 64 = r.toNat := by omega
    have hv2 : Utf8.valid (r.toNat : Int) = true := by simp [Utf8.valid]; omega
    rw [if_neg (by omega), hc1, hc2, hc3, if_neg (by simp; omega), if_neg (by simp; omega), if_pos (by simp; omega), hv, hv2, if_pos (by simp; omega)]
    exact ⟨by simp; omega, by simp⟩

/-- In a text, at a place where a rune begins: what stands there. -/
theorem At.rune {s : ByteArray} {rs : List Int} {p : Nat} (h : At s rs p) (ht : isText s.data.toList = true) (hlt : p < s.size) :
    ∃ r k, dec1 (s.data.toList.drop p) = some (r, k) ∧ ((Utf8.decode s p).1 : Int) = r ∧ (Utf8.decode s p).2 = k := by
  cases hd : dec1 (s.data.toList.drop p) with
  | none =>
    have hp := h.fail hd
    unfold isText at ht
    rw [hp] at ht
    simp at ht
    omega
  | some rk =>
    obtain ⟨r, k⟩ := rk
    obtain ⟨h1, h2⟩ := utf8_of hd
    exact ⟨r, k, rfl, h1, h2⟩

set_option maxHeartbeats 1000000 in
set_option maxRecDepth 100000 in
theorem count_any (s : ByteArray) (hs : s.size ≤ maxLen) (w : World) :
    Calls Try.prog 17 #[.string s] w fun e w' => e = .returned (.tuple #[.int .i64 (cntN s.data.toList), .int .i64 (chkE s.data.toList)]) ∧ Below w.heap.size w w' := by
  have hS := Lib.hid hs
  unfold maxLen at hs
  cases ht : isText s.data.toList with
  | false =>
    have he : chkE s.data.toList = 5 := by simp [chkE, ht]
    have hn : cntN s.data.toList = 0 := by simp [cntN, ht]
    rw [hn]
    have HE := Lib.hid he
    clear he hn ht
    go_enter Try.func17, Try.ntmps17
    go_wp2_with fail
    refine (check_any s hS.out _).mono ?_
    rintro e w' ⟨rfl, rfl⟩
    rw [HE.out]
    go_wp2
    go_ret2
    exact ⟨ret_ii rfl HE.out.symm, Below.refl _ _⟩
  | true =>
    have he : chkE s.data.toList = 0 := by simp [chkE, ht]
    have hn : cntN s.data.toList = (parse s.data.toList).1.length := by simp [cntN, ht]
    have HE := Lib.hid he
    have HN := Lib.hid hn
    have HT := Lib.hid ht
    clear he hn ht
    rw [HE.out, HN.out]
    go_enter Try.func17, Try.ntmps17
    go_wp2_with fail
    refine (check_any s hS.out _).mono ?_
    rintro e w' ⟨rfl, rfl⟩
    rw [HE.out]
    go_wp2
    go_loopw [6] (fun n wr => ∃ (rs : List Int) (p : Nat), At s rs p ∧ n = .int .i64 rs.length ∧ wr.heap[w.heap.size]? = some (.stringIter s p) ∧ Below w.heap.size w wr) (fun _ wr => s.size - wr.iterPos w.heap.size)
    case atStart =>
      exact ⟨[], 0, At.zero s, rfl, World.iter_heap w s 0, (Below.refl _ w).alloc (Nat.le_refl _) _⟩
    case round =>
      obtain ⟨rs, p, ha, rfl, hit, hbw⟩ := hrel
      have hle := ha.le
      have hrl : rs.length ≤ p := by
        have := ha.len
        have h2 : ∀ l : List Int, l.length ≤ (encs l).length := fun l => by
          induction l with
          | nil => simp
          | cons r l ih => have := (enc_ne r).1; simp [encs] at *; omega
        have := h2 rs
        omega
      by_cases hlt : p < s.size
      · obtain ⟨r, k, hd, hr, hk⟩ := ha.rune HT.out hlt
        have hnx : ∀ ty, (Instr.next (.pointer (some ⟨w.heap.size, 0, none⟩)) true ty).run Try.prog wr = _ := fun ty => Lib.run_next_any_at wr w.heap.size s p ty hit hlt
        have hit2 := Lib.iterAt_heap wr w.heap.size s p (p + (Utf8.decode s p).2) hit
        have hbw2 := Lib.below_iterAt hbw (k := w.heap.size) (Nat.le_refl _) s (p + (Utf8.decode s p).2)
        have hn := Lib.hid (ha.next hd)
        have HK := Lib.hid hk
        have HI := Lib.hid hit2
        have HI1 := Lib.hid hit
        clear hd hr hk hit2 hit
        go_wp2
        have hm := hn.out
        go_roundw
        case rel => exact ⟨rs ++ [r], p + k, hm.1, by simp, by rw [← HK.out]; exact HI.out, hbw2⟩
        case measure =>
          simp only [World.iterPos, HI.out, HI1.out]
          have := HK.out
          omega
      · have hnx : ∀ ty, (Instr.next (.pointer (some ⟨w.heap.size, 0, none⟩)) true ty).run Try.prog wr = _ := fun ty => Lib.run_next_end_at wr w.heap.size s p ty hit hlt
        have hp := Lib.hid (ha.done (by omega))
        clear hit
        go_wp2
        go_ret2
        exact ⟨ret_ii (by rw [hp.out]) rfl, hbw⟩


/-- 'next' at a place in a text where a rune begins: the world behind it. -/
theorem At.next_run {s : ByteArray} {rs : List Int} {p : Nat} (h : At s rs p) (ht : isText s.data.toList = true) (hlt : p < s.size) {wr : World} {k : Nat}
    (hit : wr.heap[k]? = some (.stringIter s p)) :
    ∃ (r : Int) (p' : Nat) (wi : World), (At s (rs ++ [r]) p' ∧ p' ≤ s.size ∧ p < p' ∧ may r = true) ∧
      (∀ ty, (Instr.next (.pointer (some ⟨k, 0, none⟩)) true ty).run Try.prog wr = .ok (.tuple #[.bool true, .int .i64 p, .int .i32 r]) wi) ∧
      wi.heap[k]? = some (.stringIter s p') ∧ wi.heap.size = wr.heap.size ∧ (∀ (w : World) (B : Nat), B ≤ k → Below B w wr → Below B w wi) ∧
      (∀ base e size v n xs, k < base → wr.ownsRow base e size v n xs → wi.ownsRow base e size v n xs) := by
  obtain ⟨r, j, hd, hr, hj⟩ := h.rune ht hlt
  obtain ⟨h1, h2, h3⟩ := h.next hd
  refine ⟨r, p + j, wr.iterAt k s (p + j), ⟨h1, h2, by omega, (dec1_some hd).1⟩, fun ty => ?_, Lib.iterAt_heap _ _ _ _ _ hit, Lib.iterAt_size _ _ _ _, fun w B hB hb => Lib.below_iterAt hb hB _ _, fun base e size v n xs hk ho => ownsRow_iterAt ho hk _ _⟩
  rw [Lib.run_next_any_at wr k s p ty hit hlt, hr, hj]

theorem encs_len (l : List Int) : l.length ≤ (encs l).length := by
  induction l with
  | nil => simp
  | cons r l ih => have := (enc_ne r).1; simp [encs] at *; omega

theorem info21 : (Try.prog.info? 21).map (fun i => (i.zero, i.size, i.bytes)) = some (some (.int .i32 0), 1, 4) := by kernel_rfl

/-- The runes of a text; of what is none: none. -/
def runesL (l : List UInt8) : List Int := if isText l then (parse l).1 else []

def RunesPost (s : ByteArray) (w : World) (e : Ending) (w' : World) : Prop :=
  ∃ v, e = .returned (.tuple #[v, .int .i64 (chkAt s.data.toList), .int .i64 (chkE s.data.toList)]) ∧
    w'.ownsRow (w.heap.size) 21 1 v (runesL s.data.toList).length ((runesL s.data.toList).map (Value.int .i32)) ∧ Below w.heap.size w w'

theorem ownsRow_base {w : World} {b b' : Nat} {e : TypeId} {size : Nat} {v : Value} {n : Nat} {xs : List Value} (h : w.ownsRow b e size v n xs) (hb : b' ≤ b) : w.ownsRow b' e size v n xs := by
  obtain ⟨h1, h2⟩ := h
  refine ⟨h1, ?_⟩
  rcases h2 with h2 | ⟨g, cap, cur, a, b, c⟩
  · exact .inl h2
  · exact .inr ⟨g, cap, cur, a, by omega, c⟩

theorem ownsRow_nil (w : World) (b : Nat) (e : TypeId) (size : Nat) : w.ownsRow b e size (.slice none 0 0) 0 [] := ⟨by simp, .inl ⟨rfl, rfl⟩⟩

theorem runesPost_fail {s : ByteArray} {w : World} {a c : Int} (ht : isText s.data.toList = false) (ha : a = chkAt s.data.toList) (hc : c = chkE s.data.toList) :
    RunesPost s w (.returned (.tuple #[.slice none 0 0, .int .i64 a, .int .i64 c])) w := by
  subst ha hc
  refine ⟨_, rfl, ?_, Below.refl _ _⟩
  simp only [runesL, ht]
  exact ownsRow_nil _ _ _ _
theorem runesPost_done {s : ByteArray} {w w' : World} {v : Value} {rs : List Int} {a c : Int} (ht : isText s.data.toList = true) (hp : parse s.data.toList = (rs, [])) (ha : a = 0) (hc : c = 0)
    (ho : w'.ownsRow (w.heap.size + 1) 21 1 v rs.length (rs.map (Value.int .i32))) (hb : Below w.heap.size w w') :
    RunesPost s w (.returned (.tuple #[v, .int .i64 a, .int .i64 c])) w' := by
  subst ha hc
  refine ⟨v, ?_, ?_, hb⟩
  · simp [chkAt, chkE, ht]
  · simp only [runesL, ht, hp, if_true]; exact ownsRow_base ho (by omega)

set_option maxHeartbeats 1000000 in
set_option maxRecDepth 100000 in
theorem runes_any (s : ByteArray) (hs : s.size ≤ maxLen) (hreach : s.size * 4 ≤ 140737488351232) (w : World) :
    Calls Try.prog 26 #[.string s] w (RunesPost s w) := by
  have hS := Lib.hid hs
  unfold maxLen at hs
  obtain ⟨i0, hi, hz0, hz1, hz2⟩ := info_parts info21
  cases ht : isText s.data.toList with
  | false =>
    have he : chkE s.data.toList = 5 := by simp [chkE, ht]
    have HE := Lib.hid he
    have HT := Lib.hid ht
    clear he ht hi hz0 hz1 hz2
    go_enter Try.func26, Try.ntmps26
    go_wp2_with fail
    refine (check_any s hS.out _).mono ?_
    rintro e w' ⟨rfl, rfl⟩
    rw [HE.out]
    go_wp2
    go_ret3
    exact runesPost_fail HT.out rfl HE.out.symm
  | true =>
    have he : chkE s.data.toList = 0 := by simp [chkE, ht]
    have HE := Lib.hid he
    have HT := Lib.hid ht
    clear he ht
    go_enter Try.func26, Try.ntmps26
    go_wp2_with fail
    refine (check_any s hS.out _).mono ?_
    rintro e w' ⟨rfl, rfl⟩
    rw [HE.out]
    go_wp2
    go_loopw [7] (fun v wr => ∃ (rs : List Int) (p : Nat), At s rs p ∧ wr.ownsRow (w.heap.size + 1) 21 1 v rs.length (rs.map (Value.int .i32)) ∧ wr.heap[w.heap.size]? = some (.stringIter s p) ∧ Below w.heap.size w wr) (fun _ wr => s.size - wr.iterPos w.heap.size)
    case atStart =>
      exact ⟨[], 0, At.zero s, ownsRow_nil _ _ _ _, World.iter_heap w s 0, (Below.refl _ w).alloc (Nat.le_refl _) _⟩
    case round =>
      obtain ⟨rs, p, ha, hown, hit, hbw⟩ := hrel
      have hle := ha.le
      have hsz : w.heap.size < wr.heap.size := (Array.getElem?_eq_some_iff.1 hit).1
      have hrl : rs.length ≤ p := by
        have := ha.len
        have := encs_len rs
        omega
      have HI1 := Lib.hid hit
      by_cases hlt : p < s.size
      · obtain ⟨r, p', wi, hat, hnx, hit2, hsz2, hbl, hrow⟩ := ha.next_run HT.out hlt hit
        have hbw2 := hbl _ _ (Nat.le_refl _) hbw
        have hown2 := hrow _ _ _ _ _ _ (by omega) hown
        have HI := Lib.hid hit2
        have HA := Lib.hid hat
        have hszi : w.heap.size < wi.heap.size := by omega
        clear hit hit2 hat hbl hrow hsz2 hown
        go_wp2_with (at_builtin; refine wpList_append_own _ rfl _ _ 22 rfl (w.heap.size + 1) 21 i0 (.int .i32 0) 1 4 Try.underlying22 hi hz0 hz1 hz2 rfl (by decide) _ _ _ rfl (hown2.alloc _) ⟨wi.heap.size, 0, none⟩ 1 1 [.int .i32 r] rfl rfl ?c1 ?c2 ?c3 ?c4 ?c5 ?_)
        case c1 => exact cell_one_new _ _ _
        case c2 => simp [Value.oneCell']
        case c3 => unfold maxLen; omega
        case c4 => omega
        case c5 => simp; omega
        intro v' w1 hown' hgrow _
        go_wp2
        have hne : some w.heap.size ≠ u7.ownBlock := fun h => by have := hown2.lt w.heap.size h.symm; omega
        have hit3 : w1.heap[w.heap.size]? = some (.stringIter s p') := by
          rw [hgrow.block _ (by simp; omega) hne]
          exact (Below.heap_alloc _ _ _ hszi).trans HI.out
        go_roundw
        case rel =>
          refine ⟨rs ++ [r], p', HA.out.1, ?_, hit3, (hbw2.alloc (by omega) _).grown hgrow (by simp; omega) (fun j hj => by have := (hown2.lt j hj).1; omega)⟩
          simpa using hown'
        case measure =>
          simp only [World.iterPos, hit3, HI1.out]
          have := HA.out
          omega
      · have hnx : ∀ ty, (Instr.next (.pointer (some ⟨w.heap.size, 0, none⟩)) true ty).run Try.prog wr = _ := fun ty => Lib.run_next_end_at wr w.heap.size s p ty hit hlt
        have hp := Lib.hid (ha.done (by omega))
        clear hit
        go_wp2
        go_ret3
        exact runesPost_done HT.out hp.out rfl rfl hown hbw

end Go.Proofs.Ytipoifokcnbfnaa
