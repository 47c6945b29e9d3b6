/- Walks of the functions of utf that only compute: may, lead, decode, Check. -/
import Derived.Test.YtchbpfkjhilgiaaProg
import Derived.Test.YtchbpfkjhilgiaaM
import Derived.WalkKit
import Derived.WalkSpells
import Derived.WalkLawsBesides
import Derived.Lib.Hide
namespace Go.Proofs.Ytchbpfkjhilgiaa
open Go.RowKit

theorem ret_boolU3 {a b : Bool} (h : a = b) : Ending.returned (.bool a) = .returned (.bool b) := by rw [h]
theorem ret_iii {k1 k2 k3 : IntKind} {a a' b b' c c' : Int} (h1 : a = a') (h2 : b = b') (h3 : c = c') :
    Ending.returned (.tuple #[.int k1 a, .int k2 b, .int k3 c]) = .returned (.tuple #[.int k1 a', .int k2 b', .int k3 c']) := by rw [h1, h2, h3]
theorem ret_iib {k1 k2 : IntKind} {a a' b b' : Int} {c c' : Bool} (h1 : a = a') (h2 : b = b') (h3 : c = c') :
    Ending.returned (.tuple #[.int k1 a, .int k2 b, .bool c]) = .returned (.tuple #[.int k1 a', .int k2 b', .bool c']) := by rw [h1, h2, h3]
theorem ret_ii {k1 k2 : IntKind} {a a' b b' : Int} (h1 : a = a') (h2 : b = b') :
    Ending.returned (.tuple #[.int k1 a, .int k2 b]) = .returned (.tuple #[.int k1 a', .int k2 b']) := by rw [h1, h2]

set_option maxHeartbeats 400000 in
theorem may_any (r : Int) (w : World) :
    Calls Try.prog 35 #[.int .i32 r] w fun e w' => e = .returned (.bool (may r)) ∧ w = w' := by
  go_enter Try.func35, Try.ntmps35
  go_wp2
  all_goals
    go_ret
    refine ⟨ret_boolU3 ?_, rfl⟩
    unfold may
    rw [Bool.eq_iff_iff]
    simp
    try omega

theorem May_any (r : Int) (w : World) :
    Calls Try.prog 21 #[.int .i32 r] w fun e w' => e = .returned (.bool (may r)) ∧ w = w' := by
  go_enter Try.func21, Try.ntmps21
  go_wp2
  all_goals
    go_ret
    refine ⟨ret_boolU3 ?_, rfl⟩
    unfold may
    rw [Bool.eq_iff_iff]
    simp
    try omega

/-- What decode hands back. -/
def DecPost (o : Option (Int × Nat)) (at' : Nat) (e : Ending) : Prop :=
  match o with
  | some (r, k) => e = .returned (.tuple #[.int .i32 r, .int .i64 ((at' + k : Nat) : Int), .bool true])
  | none => ∃ r k : Int, e = .returned (.tuple #[.int .i32 r, .int .i64 k, .bool false])

theorem and192_all : ∀ c : Fin 256, (bits .and .u8 ((c.val : Nat) : Int) 192 != 128) = !(c.val / 64 == 2) := by decide +kernel
theorem and192 (c : UInt8) : (bits .and .u8 (c.toNat : Int) 192 != 128) = !(c.toNat / 64 == 2) := and192_all ⟨c.toNat, c.toNat_lt⟩

theorem drop_at (s : ByteArray) (i : Nat) (h : i < s.size) : s.data.toList.drop i = s[i] :: s.data.toList.drop (i + 1) := by
  rw [List.drop_eq_getElem_cons (by simpa using h)]; rfl
theorem take_next (s : ByteArray) (i k : Nat) (h : i + k < s.size) : (s.data.toList.drop i).take (k + 1) = (s.data.toList.drop i).take k ++ [s[i + k]] := by
  have hl : k < (s.data.toList.drop i).length := by simp; omega
  rw [List.take_succ_eq_append_getElem hl, List.getElem_drop]; rfl

theorem dec_neg {s : ByteArray} {at' : Nat} (h : at' < s.size) (hn : leadN s[at'].toNat < 0) : dec1 (s.data.toList.drop at') = none := by
  rw [drop_at s at' h, dec1, if_pos (.inl hn)]
theorem dec_short {s : ByteArray} {at' : Nat} (h : at' < s.size) (hn : (s.size : Int) - at' ≤ leadN s[at'].toNat) : dec1 (s.data.toList.drop at') = none := by
  rw [drop_at s at' h, dec1, if_pos (.inr (by simp; omega))]
theorem dec_bad {s : ByteArray} {at' m k : Nat} (h : at' < s.size) (hn : leadN s[at'].toNat = m) (hk : k < m) (hm : (m : Int) < s.size - at')
    (hb : (s[at' + 1 + k].toNat / 64 == 2) = false) : dec1 (s.data.toList.drop at') = none := by
  rw [drop_at s at' h, dec1, hn, if_neg (by simp; omega), if_pos]
  unfold contOk
  rw [List.all_eq_false]
  refine ⟨s[at' + 1 + k], ?_, by simp [hb]⟩
  have hl : k < ((s.data.toList.drop (at' + 1)).take (m : Int).toNat).length := by simp; omega
  have : ((s.data.toList.drop (at' + 1)).take (m : Int).toNat)[k] = s[at' + 1 + k] := by
    rw [List.getElem_take, List.getElem_drop]; rfl
  rw [← this]; exact List.getElem_mem hl
theorem dec_good {s : ByteArray} {at' m : Nat} (h : at' < s.size) (hn : leadN s[at'].toNat = m) (hm : (m : Int) < s.size - at')
    (hok : contOk ((s.data.toList.drop (at' + 1)).take m) = true) :
    dec1 (s.data.toList.drop at') = if leadL s[at'].toNat ≤ contV (leadR s[at'].toNat) ((s.data.toList.drop (at' + 1)).take m) ∧ may (contV (leadR s[at'].toNat) ((s.data.toList.drop (at' + 1)).take m)) = true then
      some (contV (leadR s[at'].toNat) ((s.data.toList.drop (at' + 1)).take m), m + 1) else none := by
  rw [drop_at s at' h, dec1, hn, if_neg (by simp; omega), Int.toNat_natCast, hok, if_neg (by simp)]

theorem decPost_none {o : Option (Int × Nat)} {at' : Nat} {r k : Int} (h : o = none) : DecPost o at' (.returned (.tuple #[.int .i32 r, .int .i64 k, .bool false])) := by
  subst h; exact ⟨r, k, rfl⟩

theorem decPost_last {o : Option (Int × Nat)} {at' m : Nat} {least v a : Int} {b : Bool} (h : o = if least ≤ v ∧ may v = true then some (v, m + 1) else none) (hl : least ≤ v) (hb : b = may v) (ha : a = at' + m + 1) :
    DecPost o at' (.returned (.tuple #[.int .i32 v, .int .i64 a, .bool b])) := by
  subst hb ha
  cases hm : may v with
  | true => rw [if_pos ⟨hl, hm⟩] at h; subst h; exact ret_iib rfl (by omega) rfl
  | false => rw [if_neg (by simp [hm])] at h; subst h; exact ⟨_, _, rfl⟩

theorem or6 (r : Int) (c : UInt8) (h0 : 0 ≤ r) (h1 : r < 524288) : bits .or .i32 (r * 64) (wrap32 (bits .and .u8 (c.toNat : Int) 63)) = r * 64 + (c.toNat : Int) % 64 := by
  have hc := c.toNat_lt
  have e3 : bits .and .u8 (c.toNat : Int) 63 = (c.toNat : Int) % 64 := u8_and63 _ (by omega) (by omega)
  rw [e3, IntWalk.wrap32_in _ (by omega)]
  have e0 : 0 ≤ r * 64 := by omega
  have e1 : (r * 64) % 64 = 0 := by omega
  exact i32_or6 _ _ e0 e1 (by omega) (by omega) (by omega)

structure AtU3 (s : ByteArray) (rs : List Int) (at' : Nat) : Prop where
  good : Good rs
  eq : s.data.toList = encs rs ++ s.data.toList.drop at'
  len : at' = (encs rs).length

theorem AtU3.zero (s : ByteArray) : AtU3 s [] 0 := ⟨by simp [Good], by simp [encs], by simp [encs]⟩
theorem AtU3.le {s : ByteArray} {rs : List Int} {at' : Nat} (h : AtU3 s rs at') : at' ≤ s.size := by
  have := congrArg List.length h.eq
  simp at this
  have := h.len
  omega
theorem AtU3.next {s : ByteArray} {rs : List Int} {at' : Nat} (h : AtU3 s rs at') {r : Int} {k : Nat} (hd : dec1 (s.data.toList.drop at') = some (r, k)) : AtU3 s (rs ++ [r]) (at' + k) ∧ at' + k ≤ s.size ∧ 1 ≤ k := by
  obtain ⟨hm, t, ht, hk⟩ := dec1_some hd
  have hdd : s.data.toList.drop (at' + k) = t := by
    rw [← List.drop_drop, ht, hk, List.drop_left]
  have a : AtU3 s (rs ++ [r]) (at' + k) := ⟨h.good.snoc hm, by rw [hdd, encs_snoc, List.append_assoc, ← ht]; exact h.eq, by rw [encs_snoc, List.length_append, ← h.len, hk]⟩
  exact ⟨a, a.le, by have := enc_ne r; omega⟩
theorem AtU3.fail {s : ByteArray} {rs : List Int} {at' : Nat} (h : AtU3 s rs at') (hd : dec1 (s.data.toList.drop at') = none) : parse s.data.toList = (rs, s.data.toList.drop at') :=
  Parsed.parse_eq ⟨h.good, h.eq, hd⟩
theorem AtU3.done {s : ByteArray} {rs : List Int} {at' : Nat} (h : AtU3 s rs at') (hd : s.size ≤ at') : parse s.data.toList = (rs, []) := by
  have e : s.data.toList.drop at' = [] := List.drop_eq_nil_of_le (by simpa using hd)
  rw [← e]; exact h.fail (by rw [e]; rfl)

theorem AtU3.fail_chk {s : ByteArray} {rs : List Int} {at' : Nat} (h : AtU3 s rs at') (hlt : at' < s.size) (hd : dec1 (s.data.toList.drop at') = none) :
    (at' : Int) = chkAt s.data.toList ∧ 5 = chkE s.data.toList := by
  have hp := h.fail hd
  have hne : s.data.toList.drop at' ≠ [] := by
    intro hh; have := congrArg List.length hh; simp at this; omega
  have ht : isText s.data.toList = false := by
    unfold isText; rw [hp]; simpa using hne
  unfold chkAt chkE
  rw [ht, hp]
  simp; omega
theorem AtU3.done_chk {s : ByteArray} {rs : List Int} {at' : Nat} (h : AtU3 s rs at') (hlt : s.size ≤ at') :
    0 = chkAt s.data.toList ∧ 0 = chkE s.data.toList := by
  have hp := h.done hlt
  have ht : isText s.data.toList = true := by unfold isText; rw [hp]; rfl
  unfold chkAt chkE
  rw [ht]; exact ⟨rfl, rfl⟩

end Go.Proofs.Ytchbpfkjhilgiaa
