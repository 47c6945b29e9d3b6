/- Walks of utf.Cut and utf.Decode. -/
import Derived.Test.YtkfpgbhafeikiaaX
namespace Go.Proofs.Ytkfpgbhafeikiaa
open Go.RowKit

theorem ret_si {k : IntKind} {s s' : ByteArray} {a a' : Int} (h1 : s = s') (h2 : a = a') :
    Ending.returned (.tuple #[.string s, .int k a]) = .returned (.tuple #[.string s', .int k a']) := by rw [h1, h2]

theorem bytes_ext {s : ByteArray} {l : List UInt8} (h : s.data.toList = l) : s = ⟨l.toArray⟩ := by
  subst h; cases s; simp

def cutE (l : List UInt8) (a b : Int) : Int := if isText l then (if 0 ≤ a ∧ a ≤ b ∧ b ≤ (parse l).1.length then 0 else 1) else 5
def cutL (l : List UInt8) (a b : Int) : List UInt8 := if isText l then (if 0 ≤ a ∧ a ≤ b ∧ b ≤ (parse l).1.length then encs (((parse l).1.drop a.toNat).take (b - a).toNat) else []) else []

theorem At.pre {s : ByteArray} {rs : List Int} {p : Nat} (h : At s rs p) (ht : isText s.data.toList = true) : rs = (parse s.data.toList).1.take rs.length ∧ rs.length ≤ (parse s.data.toList).1.length := by
  have hp := parse_parsed s.data.toList
  have e1 := isText_iff.1 ht
  have hq := parse_parsed (s.data.toList.drop p)
  have h2 : Parsed s.data.toList (rs ++ (parse (s.data.toList.drop p)).1) (parse (s.data.toList.drop p)).2 := by
    refine ⟨?_, ?_, hq.stop⟩
    · intro x hx
      rcases List.mem_append.1 hx with hx | hx
      · exact h.good x hx
      · exact hq.good x hx
    · have := hq.eq
      rw [encs, List.flatMap_append, List.append_assoc]
      exact h.eq.trans (by rw [encs]; congr 1)
  have h3 := (hp.unique h2).1
  rw [h3]
  simp

theorem encs_append (a b : List Int) : encs (a ++ b) = encs a ++ encs b := by simp [encs]

/-- The place where rune number k of a text begins. -/
def posOf (rs : List Int) (k : Nat) : Nat := (encs (rs.take k)).length

theorem posOf_le (rs : List Int) {j k : Nat} (h : j ≤ k) : posOf rs j ≤ posOf rs k := by
  unfold posOf
  have : rs.take k = rs.take j ++ (rs.take k).drop j := by
    conv => lhs; rw [← List.take_append_drop j (rs.take k)]
    rw [List.take_take, Nat.min_eq_left h]
  rw [this, encs_append, List.length_append]
  omega

theorem extract_encs {s : ByteArray} {rs : List Int} (h : s.data.toList = encs rs) {a b : Nat} (hab : a ≤ b) :
    (s.extract (posOf rs a) (posOf rs b)).data.toList = encs ((rs.drop a).take (b - a)) := by
  have e1 : (s.extract (posOf rs a) (posOf rs b)).data.toList = (s.data.toList.drop (posOf rs a)).take (posOf rs b - posOf rs a) := by
    simp [List.take_drop]
  rw [e1, h]
  have e2 : rs = rs.take a ++ ((rs.drop a).take (b - a) ++ rs.drop b) := by
    conv => lhs; rw [← List.take_append_drop a rs]
    congr 1
    conv => lhs; rw [← List.take_append_drop (b - a) (rs.drop a)]
    rw [List.drop_drop, Nat.add_sub_cancel' hab]
  have e3 : encs rs = encs (rs.take a) ++ (encs ((rs.drop a).take (b - a)) ++ encs (rs.drop b)) := by
    conv => lhs; rw [e2]
    simp [encs]
  have e4 : posOf rs b - posOf rs a = (encs ((rs.drop a).take (b - a))).length := by
    have : rs.take b = rs.take a ++ (rs.drop a).take (b - a) := by
      rw [← List.take_append_drop a (rs.take b), List.take_take, Nat.min_eq_left hab, List.drop_take]
    unfold posOf
    rw [this, encs_append, List.length_append]
    omega
  rw [e4, e3]
  unfold posOf
  rw [List.drop_left, List.take_left]


theorem At.posEq {s : ByteArray} {rs : List Int} {p : Nat} (h : At s rs p) (ht : isText s.data.toList = true) : p = posOf (parse s.data.toList).1 rs.length := by
  have h1 := (h.pre ht).1
  unfold posOf
  rw [← h1]; exact h.len
theorem posOf_all {s : ByteArray} (ht : isText s.data.toList = true) : posOf (parse s.data.toList).1 (parse s.data.toList).1.length = s.size := by
  have h := isText_iff.1 ht
  have h2 := congrArg List.length h
  unfold posOf
  rw [List.take_length, ← h2]; simp

theorem extract_empty {s : ByteArray} {x y : Nat} (h : y ≤ x) : ByteArray.empty = s.extract x y := by
  apply ByteArray.ext
  simp
  omega

/-- Where Cut's piece begins, k runes having been passed. -/
def beginAt (rs : List Int) (n : Nat) (a k : Nat) : Nat := if a < k then posOf rs a else n

theorem cut_end {s : ByteArray} {a b : Nat} (ht : isText s.data.toList = true) (hab : a ≤ b) (hb : b ≤ (parse s.data.toList).1.length) {x y : Nat}
    (hx : x = posOf (parse s.data.toList).1 a) (hy : y = posOf (parse s.data.toList).1 b) :
    s.extract x y = ⟨(cutL s.data.toList a b).toArray⟩ ∧ cutE s.data.toList a b = 0 := by
  subst hx hy
  constructor
  · apply bytes_ext
    rw [extract_encs (isText_iff.1 ht) hab]
    unfold cutL
    rw [ht, if_pos rfl, if_pos (by omega)]
    congr 2
    omega
  · unfold cutE
    rw [ht, if_pos rfl, if_pos (by omega)]

set_option maxHeartbeats 1000000 in
set_option maxRecDepth 100000 in
theorem cut_good (s : ByteArray) (hs : s.size ≤ maxLen) (a b : Nat) (ht : isText s.data.toList = true) (hab : a ≤ b) (hb : b ≤ (parse s.data.toList).1.length) (w : World) :
    Calls Try.prog 15 #[.string s, .int .i64 a, .int .i64 b] w fun e w' => e = .returned (.tuple #[.string ⟨(cutL s.data.toList a b).toArray⟩, .int .i64 0]) ∧ Below w.heap.size w w' := by
  have hS := Lib.hid hs
  unfold maxLen at hs
  have he : chkE s.data.toList = 0 := by simp [chkE, ht]
  have hn : cntN s.data.toList = (parse s.data.toList).1.length := by simp [cntN, ht]
  have hall := Lib.hid (posOf_all ht)
  have hN : (parse s.data.toList).1.length ≤ s.size := by
    have h1 := congrArg List.length (isText_iff.1 ht)
    have := encs_len (parse s.data.toList).1
    simp at h1
    omega
  have HT := Lib.hid ht
  have HE := Lib.hid he
  have HN := Lib.hid hn
  have hce := Lib.hid (fun x y => @cut_end s a b ht hab hb x y)
  have hpe := Lib.hid (fun rs p h => @At.posEq s rs p h ht)
  have hpr := Lib.hid (fun rs p h => (@At.pre s rs p h ht).2)
  have hpl := Lib.hid (fun j k => @posOf_le (parse s.data.toList).1 j k)
  have Hdone := Lib.hid (fun rs p (h : At s rs p) hd => @At.done s rs p h hd)
  have hd2 := Lib.hid (fun rs (h : parse s.data.toList = (rs, [])) => show (parse s.data.toList).1 = rs by rw [h])
  clear he hn ht
  generalize (parse s.data.toList).1 = all at *
  go_enter Try.func15, Try.ntmps15
  go_wp2_with fail
  refine (count_any s hS.out _).mono ?_
  rintro e w1 ⟨rfl, hbw1⟩
  rw [HE.out, HN.out]
  have hsz1 := hbw1.size
  go_wp2_with fail
  go_loopw [10, 11, 12] (fun be en kk wr => ∃ (rs : List Int) (p : Nat), At s rs p ∧ rs.length ≤ b ∧ kk = .int .i64 rs.length ∧ be = .int .i64 (beginAt all s.size a rs.length) ∧ en = .int .i64 s.size ∧ wr.heap[w1.heap.size]? = some (.stringIter s p) ∧ Below w.heap.size w wr) (fun _ _ _ wr => s.size - wr.iterPos w1.heap.size)
  case atStart =>
    exact ⟨[], 0, At.zero s, by simp, rfl, by simp [beginAt], rfl, World.iter_heap w1 s 0, hbw1.alloc hsz1 _⟩
  case round =>
    obtain ⟨rs, p, ha, hkb, rfl, rfl, rfl, hit, hbw⟩ := hrel
    have hle := ha.le
    have hrl : rs.length ≤ p := by
      have := ha.len
      have := encs_len rs
      omega
    have HI1 := Lib.hid hit
    have hpp := Lib.hid (hpe.out rs p ha)
    by_cases hlt : p < s.size
    · obtain ⟨r, p', wi, hat, hnx, hit2, hsz2, hbl, _⟩ := ha.next_run HT.out hlt hit
      have hbw2 := hbl _ _ hsz1 hbw
      have HI := Lib.hid hit2
      have HA := Lib.hid hat
      have hlen2 := hpr.out _ _ hat.1
      clear hit hit2 hat hbl hsz2
      simp only [List.length_append, List.length_singleton] at hlen2
      by_cases hka : rs.length = a
      · have hB : beginAt all s.size a rs.length = s.size := by simp [beginAt]; omega
        have hB1 : beginAt all s.size a (rs.length + 1) = p := by
          unfold beginAt; rw [if_pos (by omega), hpp.out, hka]
        have HB1 := Lib.hid hB1
        have hka1 : ((rs.length : Int) == (a : Int)) = true := by simp; omega
        have HKA := Lib.hid hka
        rw [hB]
        clear hB hB1 hka
        by_cases hkb2 : rs.length = b
        · have hkb1 : ((rs.length : Int) == (b : Int)) = true := by simp; omega
          have HKB := Lib.hid hkb2
          clear hkb2
          go_wp2
          go_ret2
          refine ⟨ret_si ?_ rfl, hbw2⟩
          exact (extract_empty (Nat.le_refl p)).trans (hce.out p p (by rw [← HKA.out]; exact hpp.out) (by rw [← HKB.out]; exact hpp.out)).1
        · have hkb1 : ((rs.length : Int) == (b : Int)) = false := by simp; omega
          have hkb3 : rs.length < b := by omega
          clear hkb2
          go_wp2
          go_roundw
          case rel => exact ⟨rs ++ [r], p', HA.out.1, by simp; omega, by simp, by simp [HB1.out], rfl, HI.out, hbw2⟩
          case measure =>
            simp only [World.iterPos, HI.out, HI1.out]
            have := HA.out
            omega
      · have hB1 : beginAt all s.size a (rs.length + 1) = beginAt all s.size a rs.length := by
          unfold beginAt
          by_cases h : a < rs.length
          · rw [if_pos h, if_pos (by omega)]
          · rw [if_neg h, if_neg (by omega)]
        have HB1 := Lib.hid hB1
        have hka1 : ((rs.length : Int) == (a : Int)) = false := by simp; omega
        clear hB1
        by_cases hkb2 : rs.length = b
        · have hkb1 : ((rs.length : Int) == (b : Int)) = true := by simp; omega
          have HKB := Lib.hid hkb2
          have hle2 : posOf all a ≤ p := by rw [hpp.out]; exact hpl.out _ _ (by omega)
          have hB : beginAt all s.size a rs.length = posOf all a := by unfold beginAt; rw [if_pos (by omega)]
          rw [hB]
          clear hkb2 hB
          go_wp2
          all_goals
            go_ret2
            refine ⟨ret_si ?_ rfl, hbw2⟩
            exact (hce.out _ _ rfl (by rw [← HKB.out]; exact hpp.out)).1
        · have hkb1 : ((rs.length : Int) == (b : Int)) = false := by simp; omega
          have hkb3 : rs.length < b := by omega
          clear hkb2
          go_wp2
          go_roundw
          case rel => exact ⟨rs ++ [r], p', HA.out.1, by simp; omega, by simp, by simp [HB1.out], rfl, HI.out, hbw2⟩
          case measure =>
            simp only [World.iterPos, HI.out, HI1.out]
            have := HA.out
            omega
    · have hnx : ∀ ty, (Instr.next (.pointer (some ⟨w1.heap.size, 0, none⟩)) true ty).run Try.prog wr = _ := fun ty => Lib.run_next_end_at wr w1.heap.size s p ty hit hlt
      have hd := Hdone.out rs p ha (by omega)
      have hp := Lib.hid hd
      have hrsall : rs.length = all.length := by rw [hd2.out rs hd]
      have hbx : beginAt all s.size a rs.length = posOf all a := by
        unfold beginAt
        split
        · rfl
        · rw [← hall.out]; congr 1; omega
      have hby : s.size = posOf all b := by rw [← hall.out]; congr 1; omega
      have HBX := Lib.hid hbx
      have HBY := Lib.hid hby
      clear hit hd hrsall hbx hby
      go_wp2
      all_goals
        go_ret2
        refine ⟨ret_si ?_ rfl, hbw⟩
        first
        | exact (hce.out _ _ HBX.out HBY.out).1
        | exact (extract_empty (by omega)).trans (hce.out _ _ HBX.out HBY.out).1

set_option maxHeartbeats 400000 in
set_option maxRecDepth 100000 in
theorem Decode_any (s : ByteArray) (at' : Int) (hs : s.size ≤ maxLen) (w : World) :
    Calls Try.prog 19 #[.string s, .int .i64 at'] w fun e w' => e = (if 0 ≤ at' ∧ at' < s.size then match dec1 (s.data.toList.drop at'.toNat) with
      | some (r, k) => .returned (.tuple #[.int .i32 r, .int .i64 (at' + k), .int .i64 0])
      | none => .returned (.tuple #[.int .i32 0, .int .i64 0, .int .i64 5]) else .returned (.tuple #[.int .i32 0, .int .i64 0, .int .i64 1])) ∧ w = w' := by
  have hS := Lib.hid hs
  unfold maxLen at hs
  by_cases h : 0 ≤ at' ∧ at' < s.size
  · rw [if_pos h]
    obtain ⟨h0, h1⟩ := h
    obtain ⟨n, rfl⟩ := Int.eq_ofNat_of_zero_le h0
    rw [Int.toNat_natCast]
    have hlt : n < s.size := by omega
    cases hd : dec1 (s.data.toList.drop n) with
    | none =>
      have Hd := Lib.hid hd
      clear hd
      go_enter Try.func19, Try.ntmps19
      go_wp2_with (go_at_call 28; refine (decode_none hlt Hd.out hS.out _).mono ?_; rintro e w' ⟨⟨r, k, rfl⟩, rfl⟩)
      go_ret3
      exact ⟨rfl, rfl⟩
    | some rk =>
      obtain ⟨r, k⟩ := rk
      have Hd := Lib.hid hd
      clear hd
      go_enter Try.func19, Try.ntmps19
      go_wp2_with (go_at_call 28; refine (decode_some Hd.out hS.out _).mono ?_; rintro e w' ⟨rfl, rfl⟩)
      go_ret3
      exact ⟨rfl, rfl⟩
  · rw [if_neg h]
    by_cases h0 : 0 ≤ at'
    · have h1 : (s.size : Int) ≤ at' := by omega
      clear h
      go_enter Try.func19, Try.ntmps19
      go_wp2_with fail
      go_ret3
      exact ⟨rfl, rfl⟩
    · clear h
      go_enter Try.func19, Try.ntmps19
      go_wp2_with fail
      go_ret3
      exact ⟨rfl, rfl⟩


set_option maxHeartbeats 400000 in
set_option maxRecDepth 100000 in
theorem cut_any (s : ByteArray) (a b : Int) (hs : s.size ≤ maxLen) (w : World) :
    Calls Try.prog 15 #[.string s, .int .i64 a, .int .i64 b] w fun e w' => e = .returned (.tuple #[.string ⟨(cutL s.data.toList a b).toArray⟩, .int .i64 (cutE s.data.toList a b)]) ∧ Below w.heap.size w w' := by
  have hS := Lib.hid hs
  unfold maxLen at hs
  cases ht : isText s.data.toList with
  | false =>
    have he : chkE s.data.toList = 5 := by simp [chkE, ht]
    have hn : cntN s.data.toList = 0 := by simp [cntN, ht]
    have hl : cutL s.data.toList a b = [] := by simp [cutL, ht]
    have hc : cutE s.data.toList a b = 5 := by simp [cutE, ht]
    rw [hl, hc]
    have HE := Lib.hid he
    have HN := Lib.hid hn
    clear he hn ht hl hc
    go_enter Try.func15, Try.ntmps15
    go_wp2_with fail
    refine (count_any s hS.out _).mono ?_
    rintro e w1 ⟨rfl, hbw1⟩
    rw [HE.out, HN.out]
    go_wp2
    go_ret2
    exact ⟨rfl, hbw1⟩
  | true =>
    by_cases hok : 0 ≤ a ∧ a ≤ b ∧ b ≤ (parse s.data.toList).1.length
    · obtain ⟨h0, h1, h2⟩ := hok
      have hc : cutE s.data.toList a b = 0 := by unfold cutE; rw [ht, if_pos rfl, if_pos ⟨h0, h1, h2⟩]
      rw [hc]
      obtain ⟨n, rfl⟩ := Int.eq_ofNat_of_zero_le h0
      obtain ⟨m, rfl⟩ := Int.eq_ofNat_of_zero_le (show 0 ≤ b by omega)
      exact cut_good s hS.out n m ht (by omega) (by omega) w
    · have he : chkE s.data.toList = 0 := by simp [chkE, ht]
      have hn : cntN s.data.toList = (parse s.data.toList).1.length := by simp [cntN, ht]
      have hl : cutL s.data.toList a b = [] := by unfold cutL; rw [ht, if_pos rfl, if_neg hok]
      have hc : cutE s.data.toList a b = 1 := by unfold cutE; rw [ht, if_pos rfl, if_neg hok]
      rw [hl, hc]
      have HE := Lib.hid he
      have HN := Lib.hid hn
      clear he hn ht hl hc
      generalize ((parse s.data.toList).1.length : Int) = n at *
      by_cases h0 : a < 0
      · clear hok
        go_enter Try.func15, Try.ntmps15
        go_wp2_with fail
        refine (count_any s hS.out _).mono ?_
        rintro e w1 ⟨rfl, hbw1⟩
        rw [HE.out, HN.out]
        go_wp2
        go_ret2
        exact ⟨rfl, hbw1⟩
      · by_cases h1 : b < a
        · clear hok
          go_enter Try.func15, Try.ntmps15
          go_wp2_with fail
          refine (count_any s hS.out _).mono ?_
          rintro e w1 ⟨rfl, hbw1⟩
          rw [HE.out, HN.out]
          go_wp2
          go_ret2
          exact ⟨rfl, hbw1⟩
        · have h2 : n < b := by omega
          clear hok
          go_enter Try.func15, Try.ntmps15
          go_wp2_with fail
          refine (count_any s hS.out _).mono ?_
          rintro e w1 ⟨rfl, hbw1⟩
          rw [HE.out, HN.out]
          go_wp2
          go_ret2
          exact ⟨rfl, hbw1⟩

end Go.Proofs.Ytkfpgbhafeikiaa
