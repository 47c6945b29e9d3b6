/- Plain laws on UTF-8: what decode, Check, Runes and their references compute, as functions on lists of bytes. No program in sight. -/
import Derived.KernelRfl
import Derived.Test.YtcgioboiebanpaaProg
import Derived.WalkKit
import Derived.WalkSpells
import Derived.WalkLawsBesides
import Derived.Lib.Hide
namespace Go.Proofs.Ytcgioboiebanpaa

def may (r : Int) : Bool := (decide (0 ≤ r) && decide (r ≤ 1114111)) && (decide (r < 55296) || decide (57343 < r))

theorem may_iff (r : Int) : may r = true ↔ (0 ≤ r ∧ r < 55296) ∨ (57343 < r ∧ r ≤ 1114111) := by
  unfold may; simp; omega

def leadN (c : Int) : Int := if c < 128 then 0 else if c < 192 then -1 else if c < 224 then 1 else if c < 240 then 2 else if c < 248 then 3 else -1
def leadR (c : Int) : Int := if c < 128 then c else if c < 192 then 0 else if c < 224 then c % 32 else if c < 240 then c % 16 else if c < 248 then c % 8 else 0
def leadL (c : Int) : Int := if c < 128 then 0 else if c < 192 then 0 else if c < 224 then 128 else if c < 240 then 2048 else if c < 248 then 65536 else 0

theorem leadN_bd (c : Int) : -1 ≤ leadN c ∧ leadN c ≤ 3 := by unfold leadN; (repeat' split) <;> omega
theorem leadR_bd (c : Int) (h : 0 ≤ c) : 0 ≤ leadR c ∧ leadR c < 128 := by unfold leadR; (repeat' split) <;> omega

def contV (r0 : Int) (l : List UInt8) : Int := l.foldl (fun r c => r * 64 + (c.toNat : Int) % 64) r0
def contOk (l : List UInt8) : Bool := l.all (fun c => c.toNat / 64 == 2)

theorem contV_snoc (r0 : Int) (l : List UInt8) (c : UInt8) : contV r0 (l ++ [c]) = contV r0 l * 64 + (c.toNat : Int) % 64 := by
  simp [contV]
theorem contOk_snoc (l : List UInt8) (c : UInt8) : contOk (l ++ [c]) = (contOk l && (c.toNat / 64 == 2)) := by
  simp [contOk]

/-- The value after k continuation bytes is small. -/
theorem contV_bd (r0 : Int) (h0 : 0 ≤ r0) (h1 : r0 < 128) (l : List UInt8) (hl : l.length ≤ 3) : 0 ≤ contV r0 l ∧ contV r0 l < 33554432 ∧ (l.length ≤ 2 → contV r0 l < 524288) := by
  match l, hl with
  | [], _ => simp [contV]; omega
  | [a], _ => simp [contV]; omega
  | [a, b], _ => simp [contV]; omega
  | [a, b, c], _ => simp [contV]; omega
  | a :: b :: c :: d :: _, h => simp at h

def dec1 : List UInt8 → Option (Int × Nat)
  | [] => none
  | c :: t =>
    if leadN c.toNat < 0 ∨ (t.length : Int) < leadN c.toNat then none
    else if contOk (t.take (leadN c.toNat).toNat) = false then none
    else if leadL c.toNat ≤ contV (leadR c.toNat) (t.take (leadN c.toNat).toNat) ∧ may (contV (leadR c.toNat) (t.take (leadN c.toNat).toNat)) = true then
      some (contV (leadR c.toNat) (t.take (leadN c.toNat).toNat), (leadN c.toNat).toNat + 1) else none

def enc (r : Int) : List UInt8 :=
  if r < 128 then [UInt8.ofNat r.toNat]
  else if r < 2048 then [UInt8.ofNat (192 + r.toNat / 64), UInt8.ofNat (128 + r.toNat % 64)]
  else if r < 65536 then [UInt8.ofNat (224 + r.toNat / 4096), UInt8.ofNat (128 + r.toNat / 64 % 64), UInt8.ofNat (128 + r.toNat % 64)]
  else [UInt8.ofNat (240 + r.toNat / 262144), UInt8.ofNat (128 + r.toNat / 4096 % 64), UInt8.ofNat (128 + r.toNat / 64 % 64), UInt8.ofNat (128 + r.toNat % 64)]

theorem ofNat_of (c : UInt8) (n : Nat) (h : n = c.toNat) : UInt8.ofNat n = c := by subst h; simp

theorem toNat_of (n : Nat) (h : n < 256) : (UInt8.ofNat n).toNat = n := by simp; omega

set_option maxRecDepth 20000 in
theorem dec1_some {l : List UInt8} {r : Int} {k : Nat} (h : dec1 l = some (r, k)) : may r = true ∧ ∃ t, l = enc r ++ t ∧ k = (enc r).length := by
  match l with
  | [] => simp [dec1] at h
  | c :: t =>
    have hc := c.toNat_lt
    rw [dec1] at h
    split at h
    · simp at h
    rename_i hn
    split at h
    · simp at h
    rename_i hok
    split at h
    case isFalse => simp at h
    rename_i hm
    obtain ⟨hleast, hmay⟩ := hm
    simp only [Option.some.injEq, Prod.mk.injEq] at h
    obtain ⟨rfl, rfl⟩ := h
    refine ⟨hmay, ?_⟩
    simp only [not_or, Int.not_lt] at hn
    obtain ⟨hn0, hn1⟩ := hn
    rw [Bool.not_eq_false] at hok
    have hmay' := (may_iff _).1 hmay
    by_cases c1 : (c.toNat : Int) < 128
    · have e1 : leadN c.toNat = 0 := by simp [leadN, c1]
      have e2 : leadR c.toNat = c.toNat := by simp [leadR, c1]
      simp only [e1, e2] at *
      refine ⟨t, ?_, ?_⟩ <;> simp [contV, enc, c1]
    by_cases c2 : (c.toNat : Int) < 192
    · have e1 : leadN c.toNat = -1 := by simp [leadN, c1, c2]
      omega
    by_cases c3 : (c.toNat : Int) < 224
    · have e1 : leadN c.toNat = 1 := by simp [leadN, c1, c2, c3]
      have e2 : leadR c.toNat = (c.toNat : Int) % 32 := by simp [leadR, c1, c2, c3]
      have e3 : leadL c.toNat = 128 := by simp [leadL, c1, c2, c3]
      rw [e1] at hok hn0 hn1 hmay hleast hmay' ⊢
      rw [e2] at hmay hleast hmay' ⊢
      rw [e3] at hleast
      match t with
      | [] => simp at hn1
      | b :: t =>
        have hb := b.toNat_lt
        simp [contOk] at hok
        simp [contV] at *
        have er : ((c.toNat : Int) % 32 * 64 + (b.toNat : Int) % 64).toNat = c.toNat % 32 * 64 + b.toNat % 64 := by omega
        refine ⟨⟨t, ?_⟩, ?_⟩
        · simp only [enc]
          rw [if_neg (by omega), if_pos (by omega), er, ofNat_of c _ (by omega), ofNat_of b _ (by omega)]; rfl
        · simp only [enc]
          rw [if_neg (by omega), if_pos (by omega)]; rfl
    by_cases c4 : (c.toNat : Int) < 240
    · have e1 : leadN c.toNat = 2 := by simp [leadN, c1, c2, c3, c4]
      have e2 : leadR c.toNat = (c.toNat : Int) % 16 := by simp [leadR, c1, c2, c3, c4]
      have e3 : leadL c.toNat = 2048 := by simp [leadL, c1, c2, c3, c4]
      rw [e1] at hok hn0 hn1 hmay hleast hmay' ⊢
      rw [e2] at hmay hleast hmay' ⊢
      rw [e3] at hleast
      match t with
      | [] => simp at hn1
      | [_] => simp at hn1
      | b :: d :: t =>
        have hb := b.toNat_lt
        have hd := d.toNat_lt
        simp [contOk] at hok
        simp [contV] at *
        have er : (((c.toNat : Int) % 16 * 64 + (b.toNat : Int) % 64) * 64 + (d.toNat : Int) % 64).toNat = (c.toNat % 16 * 64 + b.toNat % 64) * 64 + d.toNat % 64 := by omega
        refine ⟨⟨t, ?_⟩, ?_⟩
        · simp only [enc]
          rw [if_neg (by omega), if_neg (by omega), if_pos (by omega), er, ofNat_of c _ (by omega), ofNat_of b _ (by omega), ofNat_of d _ (by omega)]; rfl
        · simp only [enc]
          rw [if_neg (by omega), if_neg (by omega), if_pos (by omega)]; rfl
    by_cases c5 : (c.toNat : Int) < 248
    · have e1 : leadN c.toNat = 3 := by simp [leadN, c1, c2, c3, c4, c5]
      have e2 : leadR c.toNat = (c.toNat : Int) % 8 := by simp [leadR, c1, c2, c3, c4, c5]
      have e3 : leadL c.toNat = 65536 := by simp [leadL, c1, c2, c3, c4, c5]
      rw [e1] at hok hn0 hn1 hmay hleast hmay' ⊢
      rw [e2] at hmay hleast hmay' ⊢
      rw [e3] at hleast
      match t with
      | [] => simp at hn1
      | [_] => simp at hn1
      | [_, _] => simp at hn1
      | b :: d :: f :: t =>
        have hb := b.toNat_lt
        have hd := d.toNat_lt
        have hf := f.toNat_lt
        simp [contOk] at hok
        simp [contV] at *
        have er : ((((c.toNat : Int) % 8 * 64 + (b.toNat : Int) % 64) * 64 + (d.toNat : Int) % 64) * 64 + (f.toNat : Int) % 64).toNat = ((c.toNat % 8 * 64 + b.toNat % 64) * 64 + d.toNat % 64) * 64 + f.toNat % 64 := by omega
        refine ⟨⟨t, ?_⟩, ?_⟩
        · simp only [enc]
          rw [if_neg (by omega), if_neg (by omega), if_neg (by omega), er, ofNat_of c _ (by omega), ofNat_of b _ (by omega), ofNat_of d _ (by omega), ofNat_of f _ (by omega)]; rfl
        · simp only [enc]
          rw [if_neg (by omega), if_neg (by omega), if_neg (by omega)]; rfl
    · have e1 : leadN c.toNat = -1 := by simp [leadN, c1, c2, c3, c4, c5]
      omega

theorem dec1_enc (r : Int) (t : List UInt8) (h : may r = true) : dec1 (enc r ++ t) = some (r, (enc r).length) := by
  have hm := (may_iff r).1 h
  unfold enc
  by_cases c1 : r < 128
  · have en : (UInt8.ofNat r.toNat).toNat = r.toNat := toNat_of _ (by omega)
    have ei : ((UInt8.ofNat r.toNat).toNat : Int) = r := by omega
    simp only [c1, if_true, List.cons_append, List.nil_append, dec1, ei, leadN, leadR, leadL]
    simp [contOk, contV, h]
    omega
  by_cases c2 : r < 2048
  · have e0 : (UInt8.ofNat (192 + r.toNat / 64)).toNat = 192 + r.toNat / 64 := toNat_of _ (by omega)
    have e1 : (UInt8.ofNat (128 + r.toNat % 64)).toNat = 128 + r.toNat % 64 := toNat_of _ (by omega)
    simp only [c1, c2, if_true, if_false, List.cons_append, List.nil_append, dec1]
    rw [e0]
    have n1 : leadN ((192 + r.toNat / 64 : Nat) : Int) = 1 := by simp only [leadN]; (repeat' split) <;> omega
    have n2 : leadR ((192 + r.toNat / 64 : Nat) : Int) = r.toNat / 64 := by simp only [leadR]; (repeat' split) <;> omega
    have n3 : leadL ((192 + r.toNat / 64 : Nat) : Int) = 128 := by simp only [leadL]; (repeat' split) <;> omega
    rw [n1, n2, n3]
    have v : contV ((r.toNat / 64 : Nat) : Int) [UInt8.ofNat (128 + r.toNat % 64)] = r := by simp only [contV, List.foldl, e1]; omega
    have o : contOk [UInt8.ofNat (128 + r.toNat % 64)] = true := by simp only [contOk, List.all_cons, e1]; simp; omega
    have tk : ((UInt8.ofNat (128 + r.toNat % 64)) :: t).take (1 : Int).toNat = [UInt8.ofNat (128 + r.toNat % 64)] := by simp
    have v' : contV ((r.toNat : Int) / 64) [UInt8.ofNat (128 + r.toNat % 64)] = r := v
    rw [tk, v', o, if_neg (by simp; omega), if_neg (by simp), if_pos ⟨by omega, h⟩]
    rfl
  by_cases c3 : r < 65536
  · have e0 : (UInt8.ofNat (224 + r.toNat / 4096)).toNat = 224 + r.toNat / 4096 := toNat_of _ (by omega)
    have e1 : (UInt8.ofNat (128 + r.toNat / 64 % 64)).toNat = 128 + r.toNat / 64 % 64 := toNat_of _ (by omega)
    have e2 : (UInt8.ofNat (128 + r.toNat % 64)).toNat = 128 + r.toNat % 64 := toNat_of _ (by omega)
    simp only [c1, c2, c3, if_true, if_false, List.cons_append, List.nil_append, dec1]
    rw [e0]
    have n1 : leadN ((224 + r.toNat / 4096 : Nat) : Int) = 2 := by simp only [leadN]; (repeat' split) <;> omega
    have n2 : leadR ((224 + r.toNat / 4096 : Nat) : Int) = r.toNat / 4096 := by simp only [leadR]; (repeat' split) <;> omega
    have n3 : leadL ((224 + r.toNat / 4096 : Nat) : Int) = 2048 := by simp only [leadL]; (repeat' split) <;> omega
    rw [n1, n2, n3]
    have v' : contV ((r.toNat : Int) / 4096) [UInt8.ofNat (128 + r.toNat / 64 % 64), UInt8.ofNat (128 + r.toNat % 64)] = r := by simp only [contV, List.foldl, e1, e2]; omega
    have o : contOk [UInt8.ofNat (128 + r.toNat / 64 % 64), UInt8.ofNat (128 + r.toNat % 64)] = true := by simp only [contOk, List.all_cons, e1, e2]; simp; omega
    have tk : ((UInt8.ofNat (128 + r.toNat / 64 % 64)) :: (UInt8.ofNat (128 + r.toNat % 64)) :: t).take (2 : Int).toNat = [UInt8.ofNat (128 + r.toNat / 64 % 64), UInt8.ofNat (128 + r.toNat % 64)] := by simp
    rw [tk, v', o, if_neg (by simp; omega), if_neg (by simp), if_pos ⟨by omega, h⟩]
    rfl
  · have e0 : (UInt8.ofNat (240 + r.toNat / 262144)).toNat = 240 + r.toNat / 262144 := toNat_of _ (by omega)
    have e3 : (UInt8.ofNat (128 + r.toNat / 4096 % 64)).toNat = 128 + r.toNat / 4096 % 64 := toNat_of _ (by omega)
    have e1 : (UInt8.ofNat (128 + r.toNat / 64 % 64)).toNat = 128 + r.toNat / 64 % 64 := toNat_of _ (by omega)
    have e2 : (UInt8.ofNat (128 + r.toNat % 64)).toNat = 128 + r.toNat % 64 := toNat_of _ (by omega)
    simp only [c1, c2, c3, if_false, List.cons_append, List.nil_append, dec1]
    rw [e0]
    have n1 : leadN ((240 + r.toNat / 262144 : Nat) : Int) = 3 := by simp only [leadN]; (repeat' split) <;> omega
    have n2 : leadR ((240 + r.toNat / 262144 : Nat) : Int) = r.toNat / 262144 := by simp only [leadR]; (repeat' split) <;> omega
    have n3 : leadL ((240 + r.toNat / 262144 : Nat) : Int) = 65536 := by simp only [leadL]; (repeat' split) <;> omega
    rw [n1, n2, n3]
    have v' : contV ((r.toNat : Int) / 262144) [UInt8.ofNat (128 + r.toNat / 4096 % 64), UInt8.ofNat (128 + r.toNat / 64 % 64), UInt8.ofNat (128 + r.toNat % 64)] = r := by simp only [contV, List.foldl, e1, e2, e3]; omega
    have o : contOk [UInt8.ofNat (128 + r.toNat / 4096 % 64), UInt8.ofNat (128 + r.toNat / 64 % 64), UInt8.ofNat (128 + r.toNat % 64)] = true := by simp only [contOk, List.all_cons, e1, e2, e3]; simp; omega
    have tk : ((UInt8.ofNat (128 + r.toNat / 4096 % 64)) :: (UInt8.ofNat (128 + r.toNat / 64 % 64)) :: (UInt8.ofNat (128 + r.toNat % 64)) :: t).take (3 : Int).toNat = [UInt8.ofNat (128 + r.toNat / 4096 % 64), UInt8.ofNat (128 + r.toNat / 64 % 64), UInt8.ofNat (128 + r.toNat % 64)] := by simp
    rw [tk, v', o, if_neg (by simp; omega), if_neg (by simp), if_pos ⟨by omega, h⟩]
    rfl

theorem enc_ne (r : Int) : 1 ≤ (enc r).length ∧ (enc r).length ≤ 4 := by unfold enc; (repeat' split) <;> simp

def encs (rs : List Int) : List UInt8 := rs.flatMap enc
def Good (rs : List Int) : Prop := ∀ r ∈ rs, may r = true

theorem encs_snoc (rs : List Int) (r : Int) : encs (rs ++ [r]) = encs rs ++ enc r := by simp [encs]
theorem Good.snoc {rs : List Int} (h : Good rs) {r : Int} (hr : may r = true) : Good (rs ++ [r]) := by
  intro x hx; rcases List.mem_append.1 hx with hx | hx
  · exact h x hx
  · simp at hx; subst hx; exact hr

/-- The runes at a byte list's head, till none stands there, and what is left. -/
def parseN : Nat → List UInt8 → List Int × List UInt8
  | 0, l => ([], l)
  | n + 1, l => match dec1 l with
    | none => ([], l)
    | some (r, k) => (r :: (parseN n (l.drop k)).1, (parseN n (l.drop k)).2)
def parse (l : List UInt8) : List Int × List UInt8 := parseN l.length l

structure Parsed (l : List UInt8) (rs : List Int) (rest : List UInt8) : Prop where
  good : Good rs
  eq : l = encs rs ++ rest
  stop : dec1 rest = none

theorem parseN_parsed (n : Nat) : ∀ l : List UInt8, l.length ≤ n → Parsed l (parseN n l).1 (parseN n l).2 := by
  induction n with
  | zero =>
    intro l h
    obtain rfl : l = [] := List.length_eq_zero_iff.1 (by omega)
    exact ⟨by simp [parseN, Good], by simp [parseN, encs], by simp [parseN, dec1]⟩
  | succ n ih =>
    intro l h
    unfold parseN
    cases hd : dec1 l with
    | none => exact ⟨by simp [Good], by simp [encs], hd⟩
    | some rk =>
      obtain ⟨r, k⟩ := rk
      obtain ⟨hm, t, rfl, rfl⟩ := dec1_some hd
      have hl := enc_ne r
      simp only [List.drop_left]
      have hp := ih t (by simp at h; omega)
      refine ⟨?_, ?_, hp.stop⟩
      · intro x hx
        rcases List.mem_cons.1 hx with rfl | hx
        · exact hm
        · exact hp.good x hx
      · have := hp.eq
        simp only [encs, List.flatMap_cons, List.append_assoc] at *
        rw [← this]

theorem parse_parsed (l : List UInt8) : Parsed l (parse l).1 (parse l).2 := parseN_parsed _ _ (Nat.le_refl _)

theorem Parsed.unique {l : List UInt8} {rs rs' : List Int} {t t' : List UInt8} (h : Parsed l rs t) (h' : Parsed l rs' t') : rs = rs' ∧ t = t' := by
  obtain ⟨g, e, s⟩ := h
  obtain ⟨g', e', s'⟩ := h'
  subst e
  induction rs generalizing rs' with
  | nil =>
    cases rs' with
    | nil => simp [encs] at e'; exact ⟨rfl, e'⟩
    | cons r rs' =>
      simp only [encs, List.flatMap_nil, List.nil_append, List.flatMap_cons, List.append_assoc] at e'
      rw [e', dec1_enc r _ (g' r (by simp))] at s
      simp at s
  | cons r rs ih =>
    cases rs' with
    | nil =>
      simp only [encs, List.flatMap_nil, List.nil_append, List.flatMap_cons, List.append_assoc] at e'
      rw [← e', dec1_enc r _ (g r (by simp))] at s'
      simp at s'
    | cons r' rs' =>
      simp only [encs, List.flatMap_cons, List.append_assoc] at e'
      have d1 := dec1_enc r (encs rs ++ t) (g r (by simp))
      have d2 := dec1_enc r' (encs rs' ++ t') (g' r' (by simp))
      simp only [encs] at d1 d2
      rw [e', d2] at d1
      simp only [Option.some.injEq, Prod.mk.injEq] at d1
      obtain ⟨rfl, _⟩ := d1
      have := List.append_cancel_left e'
      obtain ⟨e1, e2⟩ := ih (fun x hx => g x (by simp [hx])) (fun x hx => g' x (by simp [hx])) this
      exact ⟨by rw [e1], e2⟩

theorem Parsed.parse_eq {l : List UInt8} {rs : List Int} {t : List UInt8} (h : Parsed l rs t) : parse l = (rs, t) := by
  obtain ⟨a, b⟩ := (parse_parsed l).unique h
  exact Prod.ext a b

/-- Where a byte list is no text, the error's number, how many runes. -/
def isText (l : List UInt8) : Bool := (parse l).2.isEmpty
def chkAt (l : List UInt8) : Int := if isText l then 0 else (l.length : Int) - (parse l).2.length
def chkE (l : List UInt8) : Int := if isText l then 0 else 5
def cntN (l : List UInt8) : Int := if isText l then (parse l).1.length else 0

theorem isText_iff {l : List UInt8} : isText l = true ↔ l = encs (parse l).1 := by
  have h := parse_parsed l
  unfold isText
  constructor
  · intro e
    have e' : (parse l).2 = [] := by simpa using e
    have := h.eq
    rw [e', List.append_nil] at this
    exact this
  · intro e
    have h2 := h.eq
    have : (parse l).2.length = 0 := by
      have a := congrArg List.length h2
      have b := congrArg List.length e
      simp at a; omega
    simpa using this

end Go.Proofs.Ytcgioboiebanpaa

namespace Go.Proofs.Ytcgioboiebanpaa
open Go.RowKit

theorem ret_bool {a b : Bool} (h : a = b) : Ending.returned (.bool a) = .returned (.bool b) := by rw [h]
theorem ret_iii {k1 k2 k3 : IntKind} {a a' b b' c c' : Int} (h1 : a = a') (h2 : b = b') (h3 : c = c') :
    Ending.returned (.tuple #[.int k1 a, .int k2 b, .int k3 c]) = .returned (.tuple #[.int k1 a', .int k2 b', .int k3 c']) := by rw [h1, h2, h3]
theorem ret_iib {k1 k2 : IntKind} {a a' b b' : Int} {c c' : Bool} (h1 : a = a') (h2 : b = b') (h3 : c = c') :
    Ending.returned (.tuple #[.int k1 a, .int k2 b, .bool c]) = .returned (.tuple #[.int k1 a', .int k2 b', .bool c']) := by rw [h1, h2, h3]
theorem ret_ii {k1 k2 : IntKind} {a a' b b' : Int} (h1 : a = a') (h2 : b = b') :
    Ending.returned (.tuple #[.int k1 a, .int k2 b]) = .returned (.tuple #[.int k1 a', .int k2 b']) := by rw [h1, h2]

set_option maxHeartbeats 400000 in
theorem may_any (r : Int) (w : World) :
    Calls Try.prog 61 #[.int .i32 r] w fun e w' => e = .returned (.bool (may r)) ∧ w = w' := by
  go_enter Try.func61, Try.ntmps61
  go_wp2
  all_goals
    go_ret
    refine ⟨ret_bool ?_, rfl⟩
    unfold may
    rw [Bool.eq_iff_iff]
    simp
    try omega

theorem May_any (r : Int) (w : World) :
    Calls Try.prog 70 #[.int .i32 r] w fun e w' => e = .returned (.bool (may r)) ∧ w = w' := by
  go_enter Try.func70, Try.ntmps70
  go_wp2
  all_goals
    go_ret
    refine ⟨ret_bool ?_, rfl⟩
    unfold may
    rw [Bool.eq_iff_iff]
    simp
    try omega

theorem lead_any (c : Int) (h0 : 0 ≤ c) (h1 : c ≤ 255) (w : World) :
    Calls Try.prog 69 #[.int .u8 c] w fun e w' => e = .returned (.tuple #[.int .i64 (leadN c), .int .i32 (leadR c), .int .i32 (leadL c)]) ∧ w = w' := by
  go_enter Try.func69, Try.ntmps69
  go_wp2
  all_goals
    go_ret3
    refine ⟨ret_iii ?_ ?_ ?_, rfl⟩ <;> simp only [leadN, leadR, leadL] <;> (repeat' split) <;> omega

theorem lead_u8 (c : UInt8) (w : World) :
    Calls Try.prog 69 #[.int .u8 c.toNat] w fun e w' => e = .returned (.tuple #[.int .i64 (leadN c.toNat), .int .i32 (leadR c.toNat), .int .i32 (leadL c.toNat)]) ∧ w = w' :=
  lead_any _ (by omega) (by have := c.toNat_lt; omega) w

/-- What decode hands back. -/
def DecPost (o : Option (Int × Nat)) (at' : Nat) (e : Ending) : Prop :=
  match o with
  | some (r, k) => e = .returned (.tuple #[.int .i32 r, .int .i64 ((at' + k : Nat) : Int), .bool true])
  | none => ∃ r k : Int, e = .returned (.tuple #[.int .i32 r, .int .i64 k, .bool false])

theorem and192_all : ∀ c : Fin 256, (bits .and .u8 ((c.val : Nat) : Int) 192 != 128) = !(c.val / 64 == 2) := by decide +kernel
theorem and192 (c : UInt8) : (bits .and .u8 (c.toNat : Int) 192 != 128) = !(c.toNat / 64 == 2) := and192_all ⟨c.toNat, c.toNat_lt⟩

theorem drop_at (s : ByteArray) (i : Nat) (h : i < s.size) : s.data.toList.drop i = s[i] :: s.data.toList.drop (i + 1) := by
  rw [List.drop_eq_getElem_cons (by simpa using h)]; rfl
theorem take_next (s : ByteArray) (i k : Nat) (h : i + k < s.size) : (s.data.toList.drop i).take (k + 1) = (s.data.toList.drop i).take k ++ [s[i + k]] := by
  have hl : k < (s.data.toList.drop i).length := by simp; omega
  rw [List.take_succ_eq_append_getElem hl, List.getElem_drop]; rfl

theorem dec_neg {s : ByteArray} {at' : Nat} (h : at' < s.size) (hn : leadN s[at'].toNat < 0) : dec1 (s.data.toList.drop at') = none := by
  rw [drop_at s at' h, dec1, if_pos (.inl hn)]
theorem dec_short {s : ByteArray} {at' : Nat} (h : at' < s.size) (hn : (s.size : Int) - at' ≤ leadN s[at'].toNat) : dec1 (s.data.toList.drop at') = none := by
  rw [drop_at s at' h, dec1, if_pos (.inr (by simp; omega))]
theorem dec_bad {s : ByteArray} {at' m k : Nat} (h : at' < s.size) (hn : leadN s[at'].toNat = m) (hk : k < m) (hm : (m : Int) < s.size - at')
    (hb : (s[at' + 1 + k].toNat / 64 == 2) = false) : dec1 (s.data.toList.drop at') = none := by
  rw [drop_at s at' h, dec1, hn, if_neg (by simp; omega), if_pos]
  unfold contOk
  rw [List.all_eq_false]
  refine ⟨s[at' + 1 + k], ?_, by simp [hb]⟩
  have hl : k < ((s.data.toList.drop (at' + 1)).take (m : Int).toNat).length := by simp; omega
  have : ((s.data.toList.drop (at' + 1)).take (m : Int).toNat)[k] = s[at' + 1 + k] := by
    rw [List.getElem_take, List.getElem_drop]; rfl
  rw [← this]; exact List.getElem_mem hl
theorem dec_good {s : ByteArray} {at' m : Nat} (h : at' < s.size) (hn : leadN s[at'].toNat = m) (hm : (m : Int) < s.size - at')
    (hok : contOk ((s.data.toList.drop (at' + 1)).take m) = true) :
    dec1 (s.data.toList.drop at') = if leadL s[at'].toNat ≤ contV (leadR s[at'].toNat) ((s.data.toList.drop (at' + 1)).take m) ∧ may (contV (leadR s[at'].toNat) ((s.data.toList.drop (at' + 1)).take m)) = true then
      some (contV (leadR s[at'].toNat) ((s.data.toList.drop (at' + 1)).take m), m + 1) else none := by
  rw [drop_at s at' h, dec1, hn, if_neg (by simp; omega), Int.toNat_natCast, hok, if_neg (by simp)]

theorem decPost_none {o : Option (Int × Nat)} {at' : Nat} {r k : Int} (h : o = none) : DecPost o at' (.returned (.tuple #[.int .i32 r, .int .i64 k, .bool false])) := by
  subst h; exact ⟨r, k, rfl⟩

theorem decPost_last {o : Option (Int × Nat)} {at' m : Nat} {least v a : Int} {b : Bool} (h : o = if least ≤ v ∧ may v = true then some (v, m + 1) else none) (hl : least ≤ v) (hb : b = may v) (ha : a = at' + m + 1) :
    DecPost o at' (.returned (.tuple #[.int .i32 v, .int .i64 a, .bool b])) := by
  subst hb ha
  cases hm : may v with
  | true => rw [if_pos ⟨hl, hm⟩] at h; subst h; exact ret_iib rfl (by omega) rfl
  | false => rw [if_neg (by simp [hm])] at h; subst h; exact ⟨_, _, rfl⟩

theorem or6 (r : Int) (c : UInt8) (h0 : 0 ≤ r) (h1 : r < 524288) : bits .or .i32 (r * 64) (wrap32 (bits .and .u8 (c.toNat : Int) 63)) = r * 64 + (c.toNat : Int) % 64 := by
  have hc := c.toNat_lt
  have e3 : bits .and .u8 (c.toNat : Int) 63 = (c.toNat : Int) % 64 := u8_and63 _ (by omega) (by omega)
  rw [e3, IntWalk.wrap32_in _ (by omega)]
  have e0 : 0 ≤ r * 64 := by omega
  have e1 : (r * 64) % 64 = 0 := by omega
  exact i32_or6 _ _ e0 e1 (by omega) (by omega) (by omega)

set_option maxHeartbeats 1000000 in
set_option maxRecDepth 100000 in
theorem decode_any (s : ByteArray) (at' : Nat) (h : at' < s.size) (hs : s.size ≤ maxLen) (w : World) :
    Calls Try.prog 60 #[.string s, .int .i64 at'] w fun e w' => DecPost (dec1 (s.data.toList.drop at')) at' e ∧ w = w' := by
  unfold maxLen at hs
  have hdn := @dec_neg s at' h
  have hds := @dec_short s at' h
  have hdb := @dec_bad s at'
  have hdg := @dec_good s at'
  go_enter Try.func60, Try.ntmps60
  clear hdn hds hdb hdg
  go_wp2_with fail
  refine (lead_u8 _ _).mono ?_
  rintro e w' ⟨rfl, rfl⟩
  have hdn := @dec_neg s at' h
  have hds := @dec_short s at' h
  have hdb := fun m k => @dec_bad s at' m k h
  have hdg := fun m => @dec_good s at' m h
  have hn1 := (leadN_bd s[at'].toNat).1
  have hn2 := (leadN_bd s[at'].toNat).2
  have hr0 := leadR_bd s[at'].toNat (by omega)
  generalize leadN ↑s[at'].toNat = n at *
  generalize leadR ↑s[at'].toNat = r0 at *
  generalize leadL ↑s[at'].toNat = least at *
  have HN := Lib.hid hdn
  have HS := Lib.hid hds
  have HB := Lib.hid hdb
  have HG := Lib.hid hdg
  clear hdn hds hdb hdg
  by_cases hneg : n < 0
  · go_wp2
    go_ret3
    exact ⟨decPost_none (HN.out hneg), rfl⟩
  · by_cases hshort : (s.size : Int) - at' ≤ n
    · go_wp2
      go_ret3
      exact ⟨decPost_none (HS.out hshort), rfl⟩
    · obtain ⟨m, rfl⟩ : ∃ m : Nat, n = m := ⟨n.toNat, by omega⟩
      go_wp2
      go_loop [8, 31] (fun r i => ∃ k : Nat, k ≤ m ∧ i = .int .i64 k ∧ contOk ((s.data.toList.drop (at' + 1)).take k) = true ∧ r = .int .i32 (contV r0 ((s.data.toList.drop (at' + 1)).take k))) (fun _ i => m - (intOf i).toNat)
      case atStart => exact ⟨0, by omega, rfl, by simp [contOk], by simp [contV]⟩
      case round =>
        obtain ⟨k, hk, rfl, hok, rfl⟩ := hrel
        have Hok := Lib.hid hok
        clear hok
        have hlen : ((s.data.toList.drop (at' + 1)).take k).length ≤ k := List.length_take_le _ _
        obtain ⟨hb0, hb1, hb2⟩ := contV_bd r0 hr0.1 hr0.2 ((s.data.toList.drop (at' + 1)).take k) (by omega)
        by_cases hlt : k < m
        · have hidx : at' + 1 + k < s.size := by omega
          have hb3 := hb2 (by omega)
          clear hb1 hb2
          have hor := Lib.hid (or6 (contV r0 ((s.data.toList.drop (at' + 1)).take k)) s[at' + 1 + k] hb0 hb3)
          have hcv := Lib.hid (contV_snoc r0 ((s.data.toList.drop (at' + 1)).take k) s[at' + 1 + k])
          have hco := Lib.hid (contOk_snoc ((s.data.toList.drop (at' + 1)).take k) s[at' + 1 + k])
          have htn := Lib.hid (take_next s (at' + 1) k hidx)
          have ha := Lib.hid (and192 s[at' + 1 + k])
          go_wp2
          · have hx : (bits BinOp.and IntKind.u8 (↑s[at' + 1 + k].toNat) 192 != 128) = true := by assumption
            rw [ha.out] at hx
            go_ret3
            exact ⟨decPost_none (HB.out m k rfl hlt (by omega) (by simpa using hx)), rfl⟩
          · have hx : (bits BinOp.and IntKind.u8 (↑s[at' + 1 + k].toNat) 192 != 128) = false := by assumption
            rw [ha.out] at hx
            go_round
            case rel =>
              refine ⟨k + 1, by omega, by go_num, ?_, ?_⟩
              · rw [htn.out, hco.out, Hok.out]; simpa using hx
              · rw [htn.out, hcv.out, hor.out]
            case measure => simp [intOf]; omega
        · obtain rfl : k = m := by omega
          have hg := HG.out k rfl (by omega) Hok.out
          have HG' := Lib.hid hg
          clear hg hb2 hlen
          generalize contV r0 ((s.data.toList.drop (at' + 1)).take k) = v at *
          go_wp2_with (go_at_call 61; refine (may_any _ _).mono ?_; rintro e w' ⟨rfl, rfl⟩)
          · go_ret3
            exact ⟨decPost_last HG'.out ‹_› rfl (by omega), rfl⟩
          · go_ret3
            refine ⟨decPost_none ?_, rfl⟩
            rw [HG'.out, if_neg (fun hh => by omega)]

theorem decode_some {s : ByteArray} {at' : Nat} {r : Int} {k : Nat} (hd : dec1 (s.data.toList.drop at') = some (r, k)) (hs : s.size ≤ maxLen) (w : World) :
    Calls Try.prog 60 #[.string s, .int .i64 at'] w fun e w' => e = .returned (.tuple #[.int .i32 r, .int .i64 ((at' : Int) + k), .bool true]) ∧ w = w' := by
  have h : at' < s.size := by
    rcases Nat.lt_or_ge at' s.size with h | h
    · exact h
    · rw [List.drop_eq_nil_of_le (by simpa using h)] at hd; simp [dec1] at hd
  refine (decode_any s at' h hs w).mono fun e w' ⟨hp, hw⟩ => ⟨?_, hw⟩
  rw [hd] at hp
  rw [hp]; exact ret_iib rfl (by omega) rfl
theorem decode_none {s : ByteArray} {at' : Nat} (h : at' < s.size) (hd : dec1 (s.data.toList.drop at') = none) (hs : s.size ≤ maxLen) (w : World) :
    Calls Try.prog 60 #[.string s, .int .i64 at'] w fun e w' => (∃ r k : Int, e = .returned (.tuple #[.int .i32 r, .int .i64 k, .bool false])) ∧ w = w' := by
  refine (decode_any s at' h hs w).mono fun e w' ⟨hp, hw⟩ => ⟨?_, hw⟩
  rw [hd] at hp
  exact hp

structure At (s : ByteArray) (rs : List Int) (at' : Nat) : Prop where
  good : Good rs
  eq : s.data.toList = encs rs ++ s.data.toList.drop at'
  len : at' = (encs rs).length

theorem At.zero (s : ByteArray) : At s [] 0 := ⟨by simp [Good], by simp [encs], by simp [encs]⟩
theorem At.le {s : ByteArray} {rs : List Int} {at' : Nat} (h : At s rs at') : at' ≤ s.size := by
  have := congrArg List.length h.eq
  simp at this
  have := h.len
  omega
theorem At.next {s : ByteArray} {rs : List Int} {at' : Nat} (h : At s rs at') {r : Int} {k : Nat} (hd : dec1 (s.data.toList.drop at') = some (r, k)) : At s (rs ++ [r]) (at' + k) ∧ at' + k ≤ s.size ∧ 1 ≤ k := by
  obtain ⟨hm, t, ht, hk⟩ := dec1_some hd
  have hdd : s.data.toList.drop (at' + k) = t := by
    rw [← List.drop_drop, ht, hk, List.drop_left]
  have a : At s (rs ++ [r]) (at' + k) := ⟨h.good.snoc hm, by rw [hdd, encs_snoc, List.append_assoc, ← ht]; exact h.eq, by rw [encs_snoc, List.length_append, ← h.len, hk]⟩
  exact ⟨a, a.le, by have := enc_ne r; omega⟩
theorem At.fail {s : ByteArray} {rs : List Int} {at' : Nat} (h : At s rs at') (hd : dec1 (s.data.toList.drop at') = none) : parse s.data.toList = (rs, s.data.toList.drop at') :=
  Parsed.parse_eq ⟨h.good, h.eq, hd⟩
theorem At.done {s : ByteArray} {rs : List Int} {at' : Nat} (h : At s rs at') (hd : s.size ≤ at') : parse s.data.toList = (rs, []) := by
  have e : s.data.toList.drop at' = [] := List.drop_eq_nil_of_le (by simpa using hd)
  rw [← e]; exact h.fail (by rw [e]; rfl)

theorem At.fail_chk {s : ByteArray} {rs : List Int} {at' : Nat} (h : At s rs at') (hlt : at' < s.size) (hd : dec1 (s.data.toList.drop at') = none) :
    (at' : Int) = chkAt s.data.toList ∧ 5 = chkE s.data.toList := by
  have hp := h.fail hd
  have hne : s.data.toList.drop at' ≠ [] := by
    intro hh; have := congrArg List.length hh; simp at this; omega
  have ht : isText s.data.toList = false := by
    unfold isText; rw [hp]; simpa using hne
  unfold chkAt chkE
  rw [ht, hp]
  simp; omega
theorem At.done_chk {s : ByteArray} {rs : List Int} {at' : Nat} (h : At s rs at') (hlt : s.size ≤ at') :
    0 = chkAt s.data.toList ∧ 0 = chkE s.data.toList := by
  have hp := h.done hlt
  have ht : isText s.data.toList = true := by unfold isText; rw [hp]; rfl
  unfold chkAt chkE
  rw [ht]; exact ⟨rfl, rfl⟩

set_option maxHeartbeats 400000 in
set_option maxRecDepth 100000 in
theorem check_any (s : ByteArray) (hs : s.size ≤ maxLen) (w : World) :
    Calls Try.prog 48 #[.string s] w fun e w' => e = .returned (.tuple #[.int .i64 (chkAt s.data.toList), .int .i64 (chkE s.data.toList)]) ∧ w = w' := by
  have hS := Lib.hid hs
  unfold maxLen at hs
  go_enter Try.func48, Try.ntmps48
  go_wp2
  go_loop [2] (fun p => ∃ (rs : List Int) (at' : Nat), At s rs at' ∧ p = .int .i64 at') (fun p => s.size - (intOf p).toNat)
  case atStart => exact ⟨[], 0, At.zero s, rfl⟩
  case round =>
    obtain ⟨rs, at', ha, rfl⟩ := hrel
    have hle := ha.le
    by_cases hlt : at' < s.size
    · cases hd : dec1 (s.data.toList.drop at') with
      | none =>
        have hc := Lib.hid (ha.fail_chk hlt hd)
        have Hd := Lib.hid hd
        clear hd
        go_wp2_with (go_at_call 60; refine (decode_none hlt Hd.out hS.out _).mono ?_; rintro e w' ⟨⟨r, k, rfl⟩, rfl⟩)
        go_ret2
        exact ⟨ret_ii hc.out.1 hc.out.2, rfl⟩
      | some rk =>
        obtain ⟨r, k⟩ := rk
        have hn := Lib.hid (ha.next hd)
        have Hd := Lib.hid hd
        clear hd
        go_wp2_with (go_at_call 60; refine (decode_some Hd.out hS.out _).mono ?_; rintro e w' ⟨rfl, rfl⟩)
        have hm := hn.out
        go_round
        case rel => exact ⟨_, _, hm.1, by go_num⟩
        case measure => simp [intOf]; omega
    · have hc := Lib.hid (ha.done_chk (by omega))
      go_wp2
      go_ret2
      exact ⟨ret_ii hc.out.1 hc.out.2, rfl⟩

end Go.Proofs.Ytcgioboiebanpaa
