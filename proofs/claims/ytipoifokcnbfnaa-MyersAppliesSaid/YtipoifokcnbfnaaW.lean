/- Walks of the functions of utf that only compute: may, lead, decode, Check. -/
import Derived.Test.YtipoifokcnbfnaaProg
import Derived.Test.YtipoifokcnbfnaaM
import Derived.WalkKit
import Derived.WalkSpells
import Derived.WalkLawsBesides
import Derived.Lib.Hide
namespace Go.Proofs.Ytipoifokcnbfnaa
open Go.RowKit

theorem ret_bool {a b : Bool} (h : a = b) : Ending.returned (.bool a) = .returned (.bool b) := by rw [h]
theorem ret_iii {k1 k2 k3 : IntKind} {a a' b b' c c' : Int} (h1 : a = a') (h2 : b = b') (h3 : c = c') :
    Ending.returned (.tuple #[.int k1 a, .int k2 b, .int k3 c]) = .returned (.tuple #[.int k1 a', .int k2 b', .int k3 c']) := by rw [h1, h2, h3]
theorem ret_iib {k1 k2 : IntKind} {a a' b b' : Int} {c c' : Bool} (h1 : a = a') (h2 : b = b') (h3 : c = c') :
    Ending.returned (.tuple #[.int k1 a, .int k2 b, .bool c]) = .returned (.tuple #[.int k1 a', .int k2 b', .bool c']) := by rw [h1, h2, h3]
theorem ret_ii {k1 k2 : IntKind} {a a' b b' : Int} (h1 : a = a') (h2 : b = b') :
    Ending.returned (.tuple #[.int k1 a, .int k2 b]) = .returned (.tuple #[.int k1 a', .int k2 b']) := by rw [h1, h2]

set_option maxHeartbeats 400000 in
theorem may_any (r : Int) (w : World) :
    Calls Try.prog 43 #[.int .i32 r] w fun e w' => e = .returned (.bool (may r)) ∧ w = w' := by
  go_enter Try.func43, Try.ntmps43
  go_wp2
  all_goals
    go_ret
    refine ⟨ret_bool ?_, rfl⟩
    unfold may
    rw [Bool.eq_iff_iff]
    simp
    try omega

theorem May_any (r : Int) (w : World) :
    Calls Try.prog 39 #[.int .i32 r] w fun e w' => e = .returned (.bool (may r)) ∧ w = w' := by
  go_enter Try.func39, Try.ntmps39
  go_wp2
  all_goals
    go_ret
    refine ⟨ret_bool ?_, rfl⟩
    unfold may
    rw [Bool.eq_iff_iff]
    simp
    try omega

theorem lead_any (c : Int) (h0 : 0 ≤ c) (h1 : c ≤ 255) (w : World) :
    Calls Try.prog 42 #[.int .u8 c] w fun e w' => e = .returned (.tuple #[.int .i64 (leadN c), .int .i32 (leadR c), .int .i32 (leadL c)]) ∧ w = w' := by
  go_enter Try.func42, Try.ntmps42
  go_wp2
  all_goals
    go_ret3
    refine ⟨ret_iii ?_ ?_ ?_, rfl⟩ <;> simp only [leadN, leadR, leadL] <;> (repeat' split) <;> omega

theorem lead_u8 (c : UInt8) (w : World) :
    Calls Try.prog 42 #[.int .u8 c.toNat] w fun e w' => e = .returned (.tuple #[.int .i64 (leadN c.toNat), .int .i32 (leadR c.toNat), .int .i32 (leadL c.toNat)]) ∧ w = w' :=
  lead_any _ (by omega) (by have := c.toNat_lt; omega) w

/-- What decode hands back. -/
def DecPost (o : Option (Int × Nat)) (at' : Nat) (e : Ending) : Prop :=
  match o with
  | some (r, k) => e = .returned (.tuple #[.int .i32 r, .int .i64 ((at' + k : Nat) : Int), .bool true])
  | none => ∃ r k : Int, e = .returned (.tuple #[.int .i32 r, .int .i64 k, .bool false])

theorem and192_all : ∀ c : Fin 256, (bits .and .u8 ((c.val : Nat) : Int) 192 != 128) = !(c.val / 64 == 2) := by decide +kernel
theorem and192 (c : UInt8) : (bits .and .u8 (c.toNat : Int) 192 != 128) = !(c.toNat / 64 == 2) := and192_all ⟨c.toNat, c.toNat_lt⟩

theorem drop_at (s : ByteArray) (i : Nat) (h : i < s.size) : s.data.toList.drop i = s[i] :: s.data.toList.drop (i + 1) := by
  rw [List.drop_eq_getElem_cons (by simpa using h)]; rfl
theorem take_next (s : ByteArray) (i k : Nat) (h : i + k < s.size) : (s.data.toList.drop i).take (k + 1) = (s.data.toList.drop i).take k ++ [s[i + k]] := by
  have hl : k < (s.data.toList.drop i).length := by simp; omega
  rw [List.take_succ_eq_append_getElem hl, List.getElem_drop]; rfl

theorem dec_neg {s : ByteArray} {at' : Nat} (h : at' < s.size) (hn : leadN s[at'].toNat < 0) : dec1 (s.data.toList.drop at') = none := by
  rw [drop_at s at' h, dec1, if_pos (.inl hn)]
theorem dec_short {s : ByteArray} {at' : Nat} (h : at' < s.size) (hn : (s.size : Int) - at' ≤ leadN s[at'].toNat) : dec1 (s.data.toList.drop at') = none := by
  rw [drop_at s at' h, dec1, if_pos (.inr (by simp; omega))]
theorem dec_bad {s : ByteArray} {at' m k : Nat} (h : at' < s.size) (hn : leadN s[at'].toNat = m) (hk : k < m) (hm : (m : Int) < s.size - at')
    (hb : (s[at' + 1 + k].toNat / 64 == 2) = false) : dec1 (s.data.toList.drop at') = none := by
  rw [drop_at s at' h, dec1, hn, if_neg (by simp; omega), if_pos]
  unfold contOk
  rw [List.all_eq_false]
  refine ⟨s[at' + 1 + k], ?_, by simp [hb]⟩
  have hl : k < ((s.data.toList.drop (at' + 1)).take (m : Int).toNat).length := by simp; omega
  have : ((s.data.toList.drop (at' + 1)).take (m : Int).toNat)[k] = s[at' + 1 + k] := by
    rw [List.getElem_take, List.getElem_drop]; rfl
  rw [← this]; exact List.getElem_mem hl
theorem dec_good {s : ByteArray} {at' m : Nat} (h : at' < s.size) (hn : leadN s[at'].toNat = m) (hm : (m : Int) < s.size - at')
    (hok : contOk ((s.data.toList.drop (at' + 1)).take m) = true) :
    dec1 (s.data.toList.drop at') = if leadL s[at'].toNat ≤ contV (leadR s[at'].toNat) ((s.data.toList.drop (at' + 1)).take m) ∧ may (contV (leadR s[at'].toNat) ((s.data.toList.drop (at' + 1)).take m)) = true then
      some (contV (leadR s[at'].toNat) ((s.data.toList.drop (at' + 1)).take m), m + 1) else none := by
  rw [drop_at s at' h, dec1, hn, if_neg (by simp; omega), Int.toNat_natCast, hok, if_neg (by simp)]

theorem decPost_none {o : Option (Int × Nat)} {at' : Nat} {r k : Int} (h : o = none) : DecPost o at' (.returned (.tuple #[.int .i32 r, .int .i64 k, .bool false])) := by
  subst h; exact ⟨r, k, rfl⟩

theorem decPost_last {o : Option (Int × Nat)} {at' m : Nat} {least v a : Int} {b : Bool} (h : o = if least ≤ v ∧ may v = true then some (v, m + 1) else none) (hl : least ≤ v) (hb : b = may v) (ha : a = at' + m + 1) :
    DecPost o at' (.returned (.tuple #[.int .i32 v, .int .i64 a, .bool b])) := by
  subst hb ha
  cases hm : may v with
  | true => rw [if_pos ⟨hl, hm⟩] at h; subst h; exact ret_iib rfl (by omega) rfl
  | false => rw [if_neg (by simp [hm])] at h; subst h; exact ⟨_, _, rfl⟩

theorem or6 (r : Int) (c : UInt8) (h0 : 0 ≤ r) (h1 : r < 524288) : bits .or .i32 (r * 64) (wrap32 (bits .and .u8 (c.toNat : Int) 63)) = r * 64 + (c.toNat : Int) % 64 := by
  have hc := c.toNat_lt
  have e3 : bits .and .u8 (c.toNat : Int) 63 = (c.toNat : Int) % 64 := u8_and63 _ (by omega) (by omega)
  rw [e3, IntWalk.wrap32_in _ (by omega)]
  have e0 : 0 ≤ r * 64 := by omega
  have e1 : (r * 64) % 64 = 0 := by omega
  exact i32_or6 _ _ e0 e1 (by omega) (by omega) (by omega)

set_option maxHeartbeats 1000000 in
set_option maxRecDepth 100000 in
theorem decode_any (s : ByteArray) (at' : Nat) (h : at' < s.size) (hs : s.size ≤ maxLen) (w : World) :
    Calls Try.prog 35 #[.string s, .int .i64 at'] w fun e w' => DecPost (dec1 (s.data.toList.drop at')) at' e ∧ w = w' := by
  unfold maxLen at hs
  have hdn := @dec_neg s at' h
  have hds := @dec_short s at' h
  have hdb := @dec_bad s at'
  have hdg := @dec_good s at'
  go_enter Try.func35, Try.ntmps35
  clear hdn hds hdb hdg
  go_wp2_with fail
  refine (lead_u8 _ _).mono ?_
  rintro e w' ⟨rfl, rfl⟩
  have hdn := @dec_neg s at' h
  have hds := @dec_short s at' h
  have hdb := fun m k => @dec_bad s at' m k h
  have hdg := fun m => @dec_good s at' m h
  have hn1 := (leadN_bd s[at'].toNat).1
  have hn2 := (leadN_bd s[at'].toNat).2
  have hr0 := leadR_bd s[at'].toNat (by omega)
  generalize leadN ↑s[at'].toNat = n at *
  generalize leadR ↑s[at'].toNat = r0 at *
  generalize leadL ↑s[at'].toNat = least at *
  have HN := Lib.hid hdn
  have HS := Lib.hid hds
  have HB := Lib.hid hdb
  have HG := Lib.hid hdg
  clear hdn hds hdb hdg
  by_cases hneg : n < 0
  · go_wp2
    go_ret3
    exact ⟨decPost_none (HN.out hneg), rfl⟩
  · by_cases hshort : (s.size : Int) - at' ≤ n
    · go_wp2
      go_ret3
      exact ⟨decPost_none (HS.out hshort), rfl⟩
    · obtain ⟨m, rfl⟩ : ∃ m : Nat, n = m := ⟨n.toNat, by omega⟩
      go_wp2
      go_loop [8, 31] (fun r i => ∃ k : Nat, k ≤ m ∧ i = .int .i64 k ∧ contOk ((s.data.toList.drop (at' + 1)).take k) = true ∧ r = .int .i32 (contV r0 ((s.data.toList.drop (at' + 1)).take k))) (fun _ i => m - (intOf i).toNat)
      case atStart => exact ⟨0, by omega, rfl, by simp [contOk], by simp [contV]⟩
      case round =>
        obtain ⟨k, hk, rfl, hok, rfl⟩ := hrel
        have Hok := Lib.hid hok
        clear hok
        have hlen : ((s.data.toList.drop (at' + 1)).take k).length ≤ k := List.length_take_le _ _
        obtain ⟨hb0, hb1, hb2⟩ := contV_bd r0 hr0.1 hr0.2 ((s.data.toList.drop (at' + 1)).take k) (by omega)
        by_cases hlt : k < m
        · have hidx : at' + 1 + k < s.size := by omega
          have hb3 := hb2 (by omega)
          clear hb1 hb2
          have hor := Lib.hid (or6 (contV r0 ((s.data.toList.drop (at' + 1)).take k)) s[at' + 1 + k] hb0 hb3)
          have hcv := Lib.hid (contV_snoc r0 ((s.data.toList.drop (at' + 1)).take k) s[at' + 1 + k])
          have hco := Lib.hid (contOk_snoc ((s.data.toList.drop (at' + 1)).take k) s[at' + 1 + k])
          have htn := Lib.hid (take_next s (at' + 1) k hidx)
          have ha := Lib.hid (and192 s[at' + 1 + k])
          go_wp2
          · have hx : (bits BinOp.and IntKind.u8 (↑s[at' + 1 + k].toNat) 192 != 128) = true := by assumption
            rw [ha.out] at hx
            go_ret3
            exact ⟨decPost_none (HB.out m k rfl hlt (by omega) (by simpa using hx)), rfl⟩
          · have hx : (bits BinOp.and IntKind.u8 (↑s[at' + 1 + k].toNat) 192 != 128) = false := by assumption
            rw [ha.out] at hx
            go_round
            case rel =>
              refine ⟨k + 1, by omega, by go_num, ?_, ?_⟩
              · rw [htn.out, hco.out, Hok.out]; simpa using hx
              · rw [htn.out, hcv.out, hor.out]
            case measure => simp [intOf]; omega
        · obtain rfl : k = m := by omega
          have hg := HG.out k rfl (by omega) Hok.out
          have HG' := Lib.hid hg
          clear hg hb2 hlen
          generalize contV r0 ((s.data.toList.drop (at' + 1)).take k) = v at *
          go_wp2_with (go_at_call 43; refine (may_any _ _).mono ?_; rintro e w' ⟨rfl, rfl⟩)
          · go_ret3
            exact ⟨decPost_last HG'.out ‹_› rfl (by omega), rfl⟩
          · go_ret3
            refine ⟨decPost_none ?_, rfl⟩
            rw [HG'.out, if_neg (fun hh => by omega)]

theorem decode_some {s : ByteArray} {at' : Nat} {r : Int} {k : Nat} (hd : dec1 (s.data.toList.drop at') = some (r, k)) (hs : s.size ≤ maxLen) (w : World) :
    Calls Try.prog 35 #[.string s, .int .i64 at'] w fun e w' => e = .returned (.tuple #[.int .i32 r, .int .i64 ((at' : Int) + k), .bool true]) ∧ w = w' := by
  have h : at' < s.size := by
    rcases Nat.lt_or_ge at' s.size with h | h
    · exact h
    · rw [List.drop_eq_nil_of_le (by simpa using h)] at hd; simp [dec1] at hd
  refine (decode_any s at' h hs w).mono fun e w' ⟨hp, hw⟩ => ⟨?_, hw⟩
  rw [hd] at hp
  rw [hp]; exact ret_iib rfl (by omega) rfl
theorem decode_none {s : ByteArray} {at' : Nat} (h : at' < s.size) (hd : dec1 (s.data.toList.drop at') = none) (hs : s.size ≤ maxLen) (w : World) :
    Calls Try.prog 35 #[.string s, .int .i64 at'] w fun e w' => (∃ r k : Int, e = .returned (.tuple #[.int .i32 r, .int .i64 k, .bool false])) ∧ w = w' := by
  refine (decode_any s at' h hs w).mono fun e w' ⟨hp, hw⟩ => ⟨?_, hw⟩
  rw [hd] at hp
  exact hp

structure At (s : ByteArray) (rs : List Int) (at' : Nat) : Prop where
  good : Good rs
  eq : s.data.toList = encs rs ++ s.data.toList.drop at'
  len : at' = (encs rs).length

theorem At.zero (s : ByteArray) : At s [] 0 := ⟨by simp [Good], by simp [encs], by simp [encs]⟩
theorem At.le {s : ByteArray} {rs : List Int} {at' : Nat} (h : At s rs at') : at' ≤ s.size := by
  have := congrArg List.length h.eq
  simp at this
  have := h.len
  omega
theorem At.next {s : ByteArray} {rs : List Int} {at' : Nat} (h : At s rs at') {r : Int} {k : Nat} (hd : dec1 (s.data.toList.drop at') = some (r, k)) : At s (rs ++ [r]) (at' + k) ∧ at' + k ≤ s.size ∧ 1 ≤ k := by
  obtain ⟨hm, t, ht, hk⟩ := dec1_some hd
  have hdd : s.data.toList.drop (at' + k) = t := by
    rw [← List.drop_drop, ht, hk, List.drop_left]
  have a : At s (rs ++ [r]) (at' + k) := ⟨h.good.snoc hm, by rw [hdd, encs_snoc, List.append_assoc, ← ht]; exact h.eq, by rw [encs_snoc, List.length_append, ← h.len, hk]⟩
  exact ⟨a, a.le, by have := enc_ne r; omega⟩
theorem At.fail {s : ByteArray} {rs : List Int} {at' : Nat} (h : At s rs at') (hd : dec1 (s.data.toList.drop at') = none) : parse s.data.toList = (rs, s.data.toList.drop at') :=
  Parsed.parse_eq ⟨h.good, h.eq, hd⟩
theorem At.done {s : ByteArray} {rs : List Int} {at' : Nat} (h : At s rs at') (hd : s.size ≤ at') : parse s.data.toList = (rs, []) := by
  have e : s.data.toList.drop at' = [] := List.drop_eq_nil_of_le (by simpa using hd)
  rw [← e]; exact h.fail (by rw [e]; rfl)

theorem At.fail_chk {s : ByteArray} {rs : List Int} {at' : Nat} (h : At s rs at') (hlt : at' < s.size) (hd : dec1 (s.data.toList.drop at') = none) :
    (at' : Int) = chkAt s.data.toList ∧ 5 = chkE s.data.toList := by
  have hp := h.fail hd
  have hne : s.data.toList.drop at' ≠ [] := by
    intro hh; have := congrArg List.length hh; simp at this; omega
  have ht : isText s.data.toList = false := by
    unfold isText; rw [hp]; simpa using hne
  unfold chkAt chkE
  rw [ht, hp]
  simp; omega
theorem At.done_chk {s : ByteArray} {rs : List Int} {at' : Nat} (h : At s rs at') (hlt : s.size ≤ at') :
    0 = chkAt s.data.toList ∧ 0 = chkE s.data.toList := by
  have hp := h.done hlt
  have ht : isText s.data.toList = true := by unfold isText; rw [hp]; rfl
  unfold chkAt chkE
  rw [ht]; exact ⟨rfl, rfl⟩

set_option maxHeartbeats 400000 in
set_option maxRecDepth 100000 in
theorem check_any (s : ByteArray) (hs : s.size ≤ maxLen) (w : World) :
    Calls Try.prog 28 #[.string s] w fun e w' => e = .returned (.tuple #[.int .i64 (chkAt s.data.toList), .int .i64 (chkE s.data.toList)]) ∧ w = w' := by
  have hS := Lib.hid hs
  unfold maxLen at hs
  go_enter Try.func28, Try.ntmps28
  go_wp2
  go_loop [2] (fun p => ∃ (rs : List Int) (at' : Nat), At s rs at' ∧ p = .int .i64 at') (fun p => s.size - (intOf p).toNat)
  case atStart => exact ⟨[], 0, At.zero s, rfl⟩
  case round =>
    obtain ⟨rs, at', ha, rfl⟩ := hrel
    have hle := ha.le
    by_cases hlt : at' < s.size
    · cases hd : dec1 (s.data.toList.drop at') with
      | none =>
        have hc := Lib.hid (ha.fail_chk hlt hd)
        have Hd := Lib.hid hd
        clear hd
        go_wp2_with (go_at_call 35; refine (decode_none hlt Hd.out hS.out _).mono ?_; rintro e w' ⟨⟨r, k, rfl⟩, rfl⟩)
        go_ret2
        exact ⟨ret_ii hc.out.1 hc.out.2, rfl⟩
      | some rk =>
        obtain ⟨r, k⟩ := rk
        have hn := Lib.hid (ha.next hd)
        have Hd := Lib.hid hd
        clear hd
        go_wp2_with (go_at_call 35; refine (decode_some Hd.out hS.out _).mono ?_; rintro e w' ⟨rfl, rfl⟩)
        have hm := hn.out
        go_round
        case rel => exact ⟨_, _, hm.1, by go_num⟩
        case measure => simp [intOf]; omega
    · have hc := Lib.hid (ha.done_chk (by omega))
      go_wp2
      go_ret2
      exact ⟨ret_ii hc.out.1 hc.out.2, rfl⟩

end Go.Proofs.Ytipoifokcnbfnaa
