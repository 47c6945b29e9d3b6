/- Plain laws on UTF-8: what decode, Check, Runes and their references compute, as functions on lists of bytes. No program in sight. -/
import Derived.KernelRfl
namespace Go.Proofs.Ytchbpfkjhilgiaa

def may (r : Int) : Bool := (decide (0 ≤ r) && decide (r ≤ 1114111)) && (decide (r < 55296) || decide (57343 < r))

theorem may_iff (r : Int) : may r = true ↔ (0 ≤ r ∧ r < 55296) ∨ (57343 < r ∧ r ≤ 1114111) := by
  unfold may; simp; omega

def leadN (c : Int) : Int := if c < 128 then 0 else if c < 192 then -1 else if c < 224 then 1 else if c < 240 then 2 else if c < 248 then 3 else -1
def leadR (c : Int) : Int := if c < 128 then c else if c < 192 then 0 else if c < 224 then c % 32 else if c < 240 then c % 16 else if c < 248 then c % 8 else 0
def leadL (c : Int) : Int := if c < 128 then 0 else if c < 192 then 0 else if c < 224 then 128 else if c < 240 then 2048 else if c < 248 then 65536 else 0

theorem leadN_bd (c : Int) : -1 ≤ leadN c ∧ leadN c ≤ 3 := by unfold leadN; (repeat' split) <;> omega
theorem leadR_bd (c : Int) (h : 0 ≤ c) : 0 ≤ leadR c ∧ leadR c < 128 := by unfold leadR; (repeat' split) <;> omega

def contV (r0 : Int) (l : List UInt8) : Int := l.foldl (fun r c => r * 64 + (c.toNat : Int) % 64) r0
def contOk (l : List UInt8) : Bool := l.all (fun c => c.toNat / 64 == 2)

theorem contV_snoc (r0 : Int) (l : List UInt8) (c : UInt8) : contV r0 (l ++ [c]) = contV r0 l * 64 + (c.toNat : Int) % 64 := by
  simp [contV]
theorem contOk_snoc (l : List UInt8) (c : UInt8) : contOk (l ++ [c]) = (contOk l && (c.toNat / 64 == 2)) := by
  simp [contOk]

/-- The value after k continuation bytes is small. -/
theorem contV_bd (r0 : Int) (h0 : 0 ≤ r0) (h1 : r0 < 128) (l : List UInt8) (hl : l.length ≤ 3) : 0 ≤ contV r0 l ∧ contV r0 l < 33554432 ∧ (l.length ≤ 2 → contV r0 l < 524288) := by
  match l, hl with
  | [], _ => simp [contV]; omega
  | [a], _ => simp [contV]; omega
  | [a, b], _ => simp [contV]; omega
  | [a, b, c], _ => simp [contV]; omega
  | a :: b :: c :: d :: _, h => simp at h

def dec1 : List UInt8 → Option (Int × Nat)
  | [] => none
  | c :: t =>
    if leadN c.toNat < 0 ∨ (t.length : Int) < leadN c.toNat then none
    else if contOk (t.take (leadN c.toNat).toNat) = false then none
    else if leadL c.toNat ≤ contV (leadR c.toNat) (t.take (leadN c.toNat).toNat) ∧ may (contV (leadR c.toNat) (t.take (leadN c.toNat).toNat)) = true then
      some (contV (leadR c.toNat) (t.take (leadN c.toNat).toNat), (leadN c.toNat).toNat + 1) else none

def enc (r : Int) : List UInt8 :=
  if r < 128 then [UInt8.ofNat r.toNat]
  else if r < 2048 then [UInt8.ofNat (192 + r.toNat / 64), UInt8.ofNat (128 + r.toNat % 64)]
  else if r < 65536 then [UInt8.ofNat (224 + r.toNat / 4096), UInt8.ofNat (128 + r.toNat / 64 % 64), UInt8.ofNat (128 + r.toNat % 64)]
  else [UInt8.ofNat (240 + r.toNat / 262144), UInt8.ofNat (128 + r.toNat / 4096 % 64), UInt8.ofNat (128 + r.toNat / 64 % 64), UInt8.ofNat (128 + r.toNat % 64)]

theorem ofNat_of (c : UInt8) (n : Nat) (h : n = c.toNat) : UInt8.ofNat n = c := by subst h; simp

theorem toNat_of (n : Nat) (h : n < 256) : (UInt8.ofNat n).toNat = n := by simp; omega

set_option maxRecDepth 20000 in
theorem dec1_some {l : List UInt8} {r : Int} {k : Nat} (h : dec1 l = some (r, k)) : may r = true ∧ ∃ t, l = enc r ++ t ∧ k = (enc r).length := by
  match l with
  | [] => simp [dec1] at h
  | c :: t =>
    have hc := c.toNat_lt
    rw [dec1] at h
    split at h
    · simp at h
    rename_i hn
    split at h
    · simp at h
    rename_i hok
    split at h
    case isFalse => simp at h
    rename_i hm
    obtain ⟨hleast, hmay⟩ := hm
    simp only [Option.some.injEq, Prod.mk.injEq] at h
    obtain ⟨rfl, rfl⟩ := h
    refine ⟨hmay, ?_⟩
    simp only [not_or, Int.not_lt] at hn
    obtain ⟨hn0, hn1⟩ := hn
    rw [Bool.not_eq_false] at hok
    have hmay' := (may_iff _).1 hmay
    by_cases c1 : (c.toNat : Int) < 128
    · have e1 : leadN c.toNat = 0 := by simp [leadN, c1]
      have e2 : leadR c.toNat = c.toNat := by simp [leadR, c1]
      simp only [e1, e2] at *
      refine ⟨t, ?_, ?_⟩ <;> simp [contV, enc, c1]
    by_cases c2 : (c.toNat : Int) < 192
    · have e1 : leadN c.toNat = -1 := by simp [leadN, c1, c2]
      omega
    by_cases c3 : (c.toNat : Int) < 224
    · have e1 : leadN c.toNat = 1 := by simp [leadN, c1, c2, c3]
      have e2 : leadR c.toNat = (c.toNat : Int) % 32 := by simp [leadR, c1, c2, c3]
      have e3 : leadL c.toNat = 128 := by simp [leadL, c1, c2, c3]
      rw [e1] at hok hn0 hn1 hmay hleast hmay' ⊢
      rw [e2] at hmay hleast hmay' ⊢
      rw [e3] at hleast
      match t with
      | [] => simp at hn1
      | b :: t =>
        have hb := b.toNat_lt
        simp [contOk] at hok
        simp [contV] at *
        have er : ((c.toNat : Int) % 32 * 64 + (b.toNat : Int) % 64).toNat = c.toNat % 32 * 64 + b.toNat % 64 := by omega
        refine ⟨⟨t, ?_⟩, ?_⟩
        · simp only [enc]
          rw [if_neg (by omega), if_pos (by omega), er, ofNat_of c _ (by omega), ofNat_of b _ (by omega)]; rfl
        · simp only [enc]
          rw [if_neg (by omega), if_pos (by omega)]; rfl
    by_cases c4 : (c.toNat : Int) < 240
    · have e1 : leadN c.toNat = 2 := by simp [leadN, c1, c2, c3, c4]
      have e2 : leadR c.toNat = (c.toNat : Int) % 16 := by simp [leadR, c1, c2, c3, c4]
      have e3 : leadL c.toNat = 2048 := by simp [leadL, c1, c2, c3, c4]
      rw [e1] at hok hn0 hn1 hmay hleast hmay' ⊢
      rw [e2] at hmay hleast hmay' ⊢
      rw [e3] at hleast
      match t with
      | [] => simp at hn1
      | [_] => simp at hn1
      | b :: d :: t =>
        have hb := b.toNat_lt
        have hd := d.toNat_lt
        simp [contOk] at hok
        simp [contV] at *
        have er : (((c.toNat : Int) % 16 * 64 + (b.toNat : Int) % 64) * 64 + (d.toNat : Int) % 64).toNat = (c.toNat % 16 * 64 + b.toNat % 64) * 64 + d.toNat % 64 := by omega
        refine ⟨⟨t, ?_⟩, ?_⟩
        · simp only [enc]
          rw [if_neg (by omega), if_neg (by omega), if_pos (by omega), er, ofNat_of c _ (by omega), ofNat_of b _ (by omega), ofNat_of d _ (by omega)]; rfl
        · simp only [enc]
          rw [if_neg (by omega), if_neg (by omega), if_pos (by omega)]; rfl
    by_cases c5 : (c.toNat : Int) < 248
    · have e1 : leadN c.toNat = 3 := by simp [leadN, c1, c2, c3, c4, c5]
      have e2 : leadR c.toNat = (c.toNat : Int) % 8 := by simp [leadR, c1, c2, c3, c4, c5]
      have e3 : leadL c.toNat = 65536 := by simp [leadL, c1, c2, c3, c4, c5]
      rw [e1] at hok hn0 hn1 hmay hleast hmay' ⊢
      rw [e2] at hmay hleast hmay' ⊢
      rw [e3] at hleast
      match t with
      | [] => simp at hn1
      | [_] => simp at hn1
      | [_, _] => simp at hn1
      | b :: d :: f :: t =>
        have hb := b.toNat_lt
        have hd := d.toNat_lt
        have hf := f.toNat_lt
        simp [contOk] at hok
        simp [contV] at *
        have er : ((((c.toNat : Int) % 8 * 64 + (b.toNat : Int) % 64) * 64 + (d.toNat : Int) % 64) * 64 + (f.toNat : Int) % 64).toNat = ((c.toNat % 8 * 64 + b.toNat % 64) * 64 + d.toNat % 64) * 64 + f.toNat % 64 := by omega
        refine ⟨⟨t, ?_⟩, ?_⟩
        · simp only [enc]
          rw [if_neg (by omega), if_neg (by omega), if_neg (by omega), er, ofNat_of c _ (by omega), ofNat_of b _ (by omega), ofNat_of d _ (by omega), ofNat_of f _ (by omega)]; rfl
        · simp only [enc]
          rw [if_neg (by omega), if_neg (by omega), if_neg (by omega)]; rfl
    · have e1 : leadN c.toNat = -1 := by simp [leadN, c1, c2, c3, c4, c5]
      omega

theorem dec1_enc (r : Int) (t : List UInt8) (h : may r = true) : dec1 (enc r ++ t) = some (r, (enc r).length) := by
  have hm := (may_iff r).1 h
  unfold enc
  by_cases c1 : r < 128
  · have en : (UInt8.ofNat r.toNat).toNat = r.toNat := toNat_of _ (by omega)
    have ei : ((UInt8.ofNat r.toNat).toNat : Int) = r := by omega
    simp only [c1, if_true, List.cons_append, List.nil_append, dec1, ei, leadN, leadR, leadL]
    simp [contOk, contV, h]
    omega
  by_cases c2 : r < 2048
  · have e0 : (UInt8.ofNat (192 + r.toNat / 64)).toNat = 192 + r.toNat / 64 := toNat_of _ (by omega)
    have e1 : (UInt8.ofNat (128 + r.toNat % 64)).toNat = 128 + r.toNat % 64 := toNat_of _ (by omega)
    simp only [c1, c2, if_true, if_false, List.cons_append, List.nil_append, dec1]
    rw [e0]
    have n1 : leadN ((192 + r.toNat / 64 : Nat) : Int) = 1 := by simp only [leadN]; (repeat' split) <;> omega
    have n2 : leadR ((192 + r.toNat / 64 : Nat) : Int) = r.toNat / 64 := by simp only [leadR]; (repeat' split) <;> omega
    have n3 : leadL ((192 + r.toNat / 64 : Nat) : Int) = 128 := by simp only [leadL]; (repeat' split) <;> omega
    rw [n1, n2, n3]
    have v : contV ((r.toNat / 64 : Nat) : Int) [UInt8.ofNat (128 + r.toNat % 64)] = r := by simp only [contV, List.foldl, e1]; omega
    have o : contOk [UInt8.ofNat (128 + r.toNat % 64)] = true := by simp only [contOk, List.all_cons, e1]; simp; omega
    have tk : ((UInt8.ofNat (128 + r.toNat % 64)) :: t).take (1 : Int).toNat = [UInt8.ofNat (128 + r.toNat % 64)] := by simp
    have v' : contV ((r.toNat : Int) / 64) [UInt8.ofNat (128 + r.toNat % 64)] = r := v
    rw [tk, v', o, if_neg (by simp; omega), if_neg (by simp), if_pos ⟨by omega, h⟩]
    rfl
  by_cases c3 : r < 65536
  · have e0 : (UInt8.ofNat (224 + r.toNat / 4096)).toNat = 224 + r.toNat / 4096 := toNat_of _ (by omega)
    have e1 : (UInt8.ofNat (128 + r.toNat / 64 % 64)).toNat = 128 + r.toNat / 64 % 64 := toNat_of _ (by omega)
    have e2 : (UInt8.ofNat (128 + r.toNat % 64)).toNat = 128 + r.toNat % 64 := toNat_of _ (by omega)
    simp only [c1, c2, c3, if_true, if_false, List.cons_append, List.nil_append, dec1]
    rw [e0]
    have n1 : leadN ((224 + r.toNat / 4096 : Nat) : Int) = 2 := by simp only [leadN]; (repeat' split) <;> omega
    have n2 : leadR ((224 + r.toNat / 4096 : Nat) : Int) = r.toNat / 4096 := by simp only [leadR]; (repeat' split) <;> omega
    have n3 : leadL ((224 + r.toNat / 4096 : Nat) : Int) = 2048 := by simp only [leadL]; (repeat' split) <;> omega
    rw [n1, n2, n3]
    have v' : contV ((r.toNat : Int) / 4096) [UInt8.ofNat (128 + r.toNat / 64 % 64), UInt8.ofNat (128 + r.toNat % 64)] = r := by simp only [contV, List.foldl, e1, e2]; omega
    have o : contOk [UInt8.ofNat (128 + r.toNat / 64 % 64), UInt8.ofNat (128 + r.toNat % 64)] = true := by simp only [contOk, List.all_cons, e1, e2]; simp; omega
    have tk : ((UInt8.ofNat (128 + r.toNat / 64 % 64)) :: (UInt8.ofNat (128 + r.toNat % 64)) :: t).take (2 : Int).toNat = [UInt8.ofNat (128 + r.toNat / 64 % 64), UInt8.ofNat (128 + r.toNat % 64)] := by simp
    rw [tk, v', o, if_neg (by simp; omega), if_neg (by simp), if_pos ⟨by omega, h⟩]
    rfl
  · have e0 : (UInt8.ofNat (240 + r.toNat / 262144)).toNat = 240 + r.toNat / 262144 := toNat_of _ (by omega)
    have e3 : (UInt8.ofNat (128 + r.toNat / 4096 % 64)).toNat = 128 + r.toNat / 4096 % 64 := toNat_of _ (by omega)
    have e1 : (UInt8.ofNat (128 + r.toNat / 64 % 64)).toNat = 128 + r.toNat / 64 % 64 := toNat_of _ (by omega)
    have e2 : (UInt8.ofNat (128 + r.toNat % 64)).toNat = 128 + r.toNat % 64 := toNat_of _ (by omega)
    simp only [c1, c2, c3, if_false, List.cons_append, List.nil_append, dec1]
    rw [e0]
    have n1 : leadN ((240 + r.toNat / 262144 : Nat) : Int) = 3 := by simp only [leadN]; (repeat' split) <;> omega
    have n2 : leadR ((240 + r.toNat / 262144 : Nat) : Int) = r.toNat / 262144 := by simp only [leadR]; (repeat' split) <;> omega
    have n3 : leadL ((240 + r.toNat / 262144 : Nat) : Int) = 65536 := by simp only [leadL]; (repeat' split) <;> omega
    rw [n1, n2, n3]
    have v' : contV ((r.toNat : Int) / 262144) [UInt8.ofNat (128 + r.toNat / 4096 % 64), UInt8.ofNat (128 + r.toNat / 64 % 64), UInt8.ofNat (128 + r.toNat % 64)] = r := by simp only [contV, List.foldl, e1, e2, e3]; omega
    have o : contOk [UInt8.ofNat (128 + r.toNat / 4096 % 64), UInt8.ofNat (128 + r.toNat / 64 % 64), UInt8.ofNat (128 + r.toNat % 64)] = true := by simp only [contOk, List.all_cons, e1, e2, e3]; simp; omega
    have tk : ((UInt8.ofNat (128 + r.toNat / 4096 % 64)) :: (UInt8.ofNat (128 + r.toNat / 64 % 64)) :: (UInt8.ofNat (128 + r.toNat % 64)) :: t).take (3 : Int).toNat = [UInt8.ofNat (128 + r.toNat / 4096 % 64), UInt8.ofNat (128 + r.toNat / 64 % 64), UInt8.ofNat (128 + r.toNat % 64)] := by simp
    rw [tk, v', o, if_neg (by simp; omega), if_neg (by simp), if_pos ⟨by omega, h⟩]
    rfl

theorem enc_ne (r : Int) : 1 ≤ (enc r).length ∧ (enc r).length ≤ 4 := by unfold enc; (repeat' split) <;> simp

def encs (rs : List Int) : List UInt8 := rs.flatMap enc
def Good (rs : List Int) : Prop := ∀ r ∈ rs, may r = true

theorem encs_snoc (rs : List Int) (r : Int) : encs (rs ++ [r]) = encs rs ++ enc r := by simp [encs]
theorem Good.snoc {rs : List Int} (h : Good rs) {r : Int} (hr : may r = true) : Good (rs ++ [r]) := by
  intro x hx; rcases List.mem_append.1 hx with hx | hx
  · exact h x hx
  · simp at hx; subst hx; exact hr

/-- The runes at a byte list's head, till none stands there, and what is left. -/
def parseN : Nat → List UInt8 → List Int × List UInt8
  | 0, l => ([], l)
  | n + 1, l => match dec1 l with
    | none => ([], l)
    | some (r, k) => (r :: (parseN n (l.drop k)).1, (parseN n (l.drop k)).2)
def parse (l : List UInt8) : List Int × List UInt8 := parseN l.length l

structure Parsed (l : List UInt8) (rs : List Int) (rest : List UInt8) : Prop where
  good : Good rs
  eq : l = encs rs ++ rest
  stop : dec1 rest = none

theorem parseN_parsed (n : Nat) : ∀ l : List UInt8, l.length ≤ n → Parsed l (parseN n l).1 (parseN n l).2 := by
  induction n with
  | zero =>
    intro l h
    obtain rfl : l = [] := List.length_eq_zero_iff.1 (by omega)
    exact ⟨by simp [parseN, Good], by simp [parseN, encs], by simp [parseN, dec1]⟩
  | succ n ih =>
    intro l h
    unfold parseN
    cases hd : dec1 l with
    | none => exact ⟨by simp [Good], by simp [encs], hd⟩
    | some rk =>
      obtain ⟨r, k⟩ := rk
      obtain ⟨hm, t, rfl, rfl⟩ := dec1_some hd
      have hl := enc_ne r
      simp only [List.drop_left]
      have hp := ih t (by simp at h; omega)
      refine ⟨?_, ?_, hp.stop⟩
      · intro x hx
        rcases List.mem_cons.1 hx with rfl | hx
        · exact hm
        · exact hp.good x hx
      · have := hp.eq
        simp only [encs, List.flatMap_cons, List.append_assoc] at *
        rw [← this]

theorem parse_parsed (l : List UInt8) : Parsed l (parse l).1 (parse l).2 := parseN_parsed _ _ (Nat.le_refl _)

theorem Parsed.unique {l : List UInt8} {rs rs' : List Int} {t t' : List UInt8} (h : Parsed l rs t) (h' : Parsed l rs' t') : rs = rs' ∧ t = t' := by
  obtain ⟨g, e, s⟩ := h
  obtain ⟨g', e', s'⟩ := h'
  subst e
  induction rs generalizing rs' with
  | nil =>
    cases rs' with
    | nil => simp [encs] at e'; exact ⟨rfl, e'⟩
    | cons r rs' =>
      simp only [encs, List.flatMap_nil, List.nil_append, List.flatMap_cons, List.append_assoc] at e'
      rw [e', dec1_enc r _ (g' r (by simp))] at s
      simp at s
  | cons r rs ih =>
    cases rs' with
    | nil =>
      simp only [encs, List.flatMap_nil, List.nil_append, List.flatMap_cons, List.append_assoc] at e'
      rw [← e', dec1_enc r _ (g r (by simp))] at s'
      simp at s'
    | cons r' rs' =>
      simp only [encs, List.flatMap_cons, List.append_assoc] at e'
      have d1 := dec1_enc r (encs rs ++ t) (g r (by simp))
      have d2 := dec1_enc r' (encs rs' ++ t') (g' r' (by simp))
      simp only [encs] at d1 d2
      rw [e', d2] at d1
      simp only [Option.some.injEq, Prod.mk.injEq] at d1
      obtain ⟨rfl, _⟩ := d1
      have := List.append_cancel_left e'
      obtain ⟨e1, e2⟩ := ih (fun x hx => g x (by simp [hx])) (fun x hx => g' x (by simp [hx])) this
      exact ⟨by rw [e1], e2⟩

theorem Parsed.parse_eq {l : List UInt8} {rs : List Int} {t : List UInt8} (h : Parsed l rs t) : parse l = (rs, t) := by
  obtain ⟨a, b⟩ := (parse_parsed l).unique h
  exact Prod.ext a b

/-- Where a byte list is no text, the error's number, how many runes. -/
def isText (l : List UInt8) : Bool := (parse l).2.isEmpty
def chkAt (l : List UInt8) : Int := if isText l then 0 else (l.length : Int) - (parse l).2.length
def chkE (l : List UInt8) : Int := if isText l then 0 else 5
def cntN (l : List UInt8) : Int := if isText l then (parse l).1.length else 0

theorem isText_iff {l : List UInt8} : isText l = true ↔ l = encs (parse l).1 := by
  have h := parse_parsed l
  unfold isText
  constructor
  · intro e
    have e' : (parse l).2 = [] := by simpa using e
    have := h.eq
    rw [e', List.append_nil] at this
    exact this
  · intro e
    have h2 := h.eq
    have : (parse l).2.length = 0 := by
      have a := congrArg List.length h2
      have b := congrArg List.length e
      simp at a; omega
    simpa using this

end Go.Proofs.Ytchbpfkjhilgiaa
