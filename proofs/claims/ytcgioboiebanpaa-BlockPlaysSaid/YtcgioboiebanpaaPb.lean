/- Plain: an insert, on elements. -/
import Derived.Test.YtcgioboiebanpaaPa
namespace Go.Proofs.Ytcgioboiebanpaa
open Go.RowKit
set_option linter.unusedVariables false

theorem keysCmp_eq (t : Int) (c : List UInt8) (i t' : Int) (c' : List UInt8) (i' : Int) : keysCmp t c i t' c' i' = if t < t' then -1 else if t' < t then 1 else if cmpB c c' ≠ 0 then cmpB c c' else if i < i' then -1 else if i' < i then 1 else 0 := by
  unfold keysCmp or3 cmpInt
  split
  · simp
  · split
    · simp
    · rfl

theorem keys_anti (t : Int) (c : List UInt8) (i t' : Int) (c' : List UInt8) (i' : Int) : keysCmp t' c' i' t c i = - keysCmp t c i t' c' i' := by
  rw [keysCmp_eq, keysCmp_eq, cmpB_anti c c']
  rcases cmpB_three c c' with h | h | h <;> rw [h] <;> (repeat' split) <;> omega
theorem keys_three (t : Int) (c : List UInt8) (i t' : Int) (c' : List UInt8) (i' : Int) : keysCmp t c i t' c' i' = -1 ∨ keysCmp t c i t' c' i' = 0 ∨ keysCmp t c i t' c' i' = 1 := by
  rw [keysCmp_eq]
  rcases cmpB_three c c' with h | h | h <;> rw [h] <;> (repeat' split) <;> omega
theorem keys_zero0 (t : Int) (c : List UInt8) (i t' : Int) (c' : List UInt8) (i' : Int) : (keyEq t c i t' c' i' = true) ↔ (t = t' ∧ cmpB c c' = 0 ∧ i = i') := by
  simp only [keyEq, Bool.and_eq_true, beq_iff_eq, cmpB_zero]
theorem keys_cases (t : Int) (c : List UInt8) (i t' : Int) (c' : List UInt8) (i' : Int) :
    (t < t' ∧ keysCmp t c i t' c' i' = -1) ∨ (t' < t ∧ keysCmp t c i t' c' i' = 1) ∨ (t = t' ∧ ((cmpB c c' = -1 ∧ keysCmp t c i t' c' i' = -1) ∨ (cmpB c c' = 1 ∧ keysCmp t c i t' c' i' = 1) ∨
      (cmpB c c' = 0 ∧ ((i < i' ∧ keysCmp t c i t' c' i' = -1) ∨ (i' < i ∧ keysCmp t c i t' c' i' = 1) ∨ (i = i' ∧ keysCmp t c i t' c' i' = 0))))) := by
  rw [keysCmp_eq]
  rcases cmpB_three c c' with h | h | h <;> rw [h] <;> (repeat' split) <;> omega
theorem keys_zero (t : Int) (c : List UInt8) (i t' : Int) (c' : List UInt8) (i' : Int) : keyEq t c i t' c' i' = decide (keysCmp t c i t' c' i' = 0) := by
  have k := keys_cases t c i t' c' i'
  rw [Bool.eq_iff_iff, keys_zero0, decide_eq_true_eq]
  generalize keysCmp t c i t' c' i' = x at *
  generalize cmpB c c' = A at *
  omega
theorem keys_trans (t1 : Int) (c1 : List UInt8) (i1 t2 : Int) (c2 : List UInt8) (i2 t3 : Int) (c3 : List UInt8) (i3 : Int) (h1 : keysCmp t1 c1 i1 t2 c2 i2 ≤ 0) (h2 : keysCmp t2 c2 i2 t3 c3 i3 ≤ 0) :
    keysCmp t1 c1 i1 t3 c3 i3 ≤ 0 ∧ (keysCmp t1 c1 i1 t2 c2 i2 < 0 ∨ keysCmp t2 c2 i2 t3 c3 i3 < 0 → keysCmp t1 c1 i1 t3 c3 i3 < 0) ∧ (keysCmp t1 c1 i1 t2 c2 i2 = 0 → keysCmp t2 c2 i2 t3 c3 i3 = 0 → keysCmp t1 c1 i1 t3 c3 i3 = 0) := by
  have ht := cmpB_trans c1 c2 c3
  have z1 := cmpB_zero c1 c2
  have z2 := cmpB_zero c2 c3
  have z3 := cmpB_zero c1 c3
  have hz : cmpB c1 c2 = 0 → cmpB c2 c3 = 0 → cmpB c1 c3 = 0 := fun a b => z3.2 ((z1.1 a).trans (z2.1 b))
  have k1 := keys_cases t1 c1 i1 t2 c2 i2
  have k2 := keys_cases t2 c2 i2 t3 c3 i3
  have k3 := keys_cases t1 c1 i1 t3 c3 i3
  clear z1 z2 z3
  generalize keysCmp t1 c1 i1 t2 c2 i2 = x at *
  generalize keysCmp t2 c2 i2 t3 c3 i3 = y at *
  generalize keysCmp t1 c1 i1 t3 c3 i3 = z at *
  generalize cmpB c1 c2 = A at *
  generalize cmpB c2 c3 = B at *
  generalize cmpB c1 c3 = C at *
  rcases k1 with k1 | k1 | ⟨_, k1 | k1 | ⟨_, k1 | k1 | k1⟩⟩ <;> (try (exfalso; omega)) <;>
  rcases k2 with k2 | k2 | ⟨_, k2 | k2 | ⟨_, k2 | k2 | k2⟩⟩ <;> (try (exfalso; omega)) <;>
  rcases k3 with k3 | k3 | ⟨_, k3 | k3 | ⟨_, k3 | k3 | k3⟩⟩ <;> omega
/-- The order of keys. -/
theorem cmpK_anti (a b : KV) : cmpK b a = - cmpK a b := keys_anti _ _ _ _ _ _
theorem cmpK_eq {a b : KV} (h : cmpK a b = 0) : a = b := by
  have := keys_zero a.1 a.2.1 a.2.2 b.1 b.2.1 b.2.2
  rw [decide_eq_true (show keysCmp a.1 a.2.1 a.2.2 b.1 b.2.1 b.2.2 = 0 from h)] at this
  simp only [keyEq, Bool.and_eq_true, beq_iff_eq] at this
  obtain ⟨at_, ac, ai⟩ := a
  obtain ⟨bt, bc, bi⟩ := b
  simp only at this
  obtain ⟨rfl, rfl, rfl⟩ := this
  rfl
theorem cmpK_trans {a b c : KV} (h1 : 0 < cmpK a b) (h2 : 0 < cmpK b c) : 0 < cmpK a c := by
  have a1 := cmpK_anti a b
  have a2 := cmpK_anti b c
  have a3 := cmpK_anti a c
  have := (keys_trans c.1 c.2.1 c.2.2 b.1 b.2.1 b.2.2 a.1 a.2.1 a.2.2 (show cmpK c b ≤ 0 by omega) (show cmpK b a ≤ 0 by omega)).2.1 (.inl (show cmpK c b < 0 by omega))
  have : cmpK c a < 0 := this
  omega
theorem cmpK_up {t : Int} {c : List UInt8} {i j : Int} {k : KV} (h : 0 < cmpK (t, c, i) k) (hj : i ≤ j) : 0 < cmpK (t, c, j) k := by
  have h1 := keys_cases t c i k.1 k.2.1 k.2.2
  have h2 := keys_cases t c j k.1 k.2.1 k.2.2
  have h : 0 < keysCmp t c i k.1 k.2.1 k.2.2 := h
  show 0 < keysCmp t c j k.1 k.2.1 k.2.2
  omega
/-- Is an element's key the greater? -/
def gtK (k : KV) (e : E1) : Bool := decide (0 < cmpK e.1 k)
def scan (k : KV) (X : List E1) : List E1 → List E1
  | [] => X
  | e :: L => if gtK k e = true then e :: scan k X L else X ++ e :: L
theorem scan_eq (k : KV) (X : List E1) : ∀ L, scan k X L = L.takeWhile (gtK k) ++ X ++ L.dropWhile (gtK k)
  | [] => by simp [scan]
  | e :: L => by
    unfold scan
    split
    · rename_i h
      rw [List.takeWhile_cons_of_pos h, List.dropWhile_cons_of_pos h, scan_eq k X L]
      simp
    · rename_i h
      rw [List.takeWhile_cons_of_neg h, List.dropWhile_cons_of_neg h]
      simp
/-- Behind the element with key a. -/
def insA (a k : KV) (X : List E1) : List E1 → List E1
  | [] => []
  | e :: F => e :: if e.1 = a then scan k X F else insA a k X F
def insF (first : Bool) (a k : KV) (X F : List E1) : List E1 := if first then scan k X F else insA a k X F
theorem insA_pos {a k : KV} {X : List E1} : ∀ {F : List E1} {q : Nat}, posF F a = some q → insA a k X F = F.take (q + 1) ++ scan k X (F.drop (q + 1))
  | [], q, h => by simp [posF] at h
  | e :: F, q, h => by
    unfold posF at h
    rw [List.findIdx?_cons] at h
    by_cases he : e.1 = a
    · rw [if_pos (by simpa using he)] at h
      simp only [Option.some.injEq] at h
      subst h
      simp [insA, he]
    · rw [if_neg (by simpa using he)] at h
      cases hf : F.findIdx? (fun e => e.1 == a) with
      | none => rw [hf] at h; simp at h
      | some p =>
        rw [hf] at h
        simp only [Option.map_some, Option.some.injEq] at h
        subst h
        have := insA_pos (F := F) (q := p) (a := a) (k := k) (X := X) hf
        simp only [insA, if_neg he, this, List.take_succ_cons, List.drop_succ_cons, List.cons_append]
theorem flat_at {rs : List MR} {p q : Nat} (h : tot (rs.take p) = q) : flat (rs.take p) = (flat rs).take q ∧ flat (rs.drop p) = (flat rs).drop q := by
  have h1 : flat (rs.take p) ++ flat (rs.drop p) = flat rs := by rw [← flat_append, List.take_append_drop]
  have h2 : (flat (rs.take p)).length = q := by rw [flat_len, h]
  rw [← h1]
  exact ⟨by rw [List.take_left' h2], by rw [List.drop_left' h2]⟩
theorem takeWhile_all {α : Type} {p : α → Bool} : ∀ {l m : List α}, (∀ x ∈ l, p x = true) → (l ++ m).takeWhile p = l ++ m.takeWhile p ∧ (l ++ m).dropWhile p = m.dropWhile p
  | [], m, h => by simp
  | x :: l, m, h => by
    have := takeWhile_all (l := l) (m := m) (fun y hy => h y (by simp [hy]))
    rw [List.cons_append, List.takeWhile_cons_of_pos (h x (by simp)), List.dropWhile_cons_of_pos (h x (by simp)), this.1, this.2]
    simp
theorem flat_gt {k : KV} : ∀ {qs : List MR}, (∀ r ∈ qs, idxOk r) → (flat qs).takeWhile (gtK k) = flat (qs.takeWhile fun r => decide (0 < cmpK r.1 k)) ∧ (flat qs).dropWhile (gtK k) = flat (qs.dropWhile fun r => decide (0 < cmpK r.1 k))
  | [], h => by simp [flat]
  | r :: qs, h => by
    have ih := flat_gt (k := k) (qs := qs) (fun x hx => h x (by simp [hx]))
    rw [flat_cons]
    by_cases hr : 0 < cmpK r.1 k
    · have ha := takeWhile_all (p := gtK k) (l := elemsR r) (m := flat qs) (fun e he => by
        obtain ⟨j, hj, h1, _⟩ := mem_elemsAt he
        unfold gtK
        rw [h1]
        exact decide_eq_true (cmpK_up (i := r.1.2.2) hr (by omega)))
      rw [ha.1, ha.2, List.takeWhile_cons_of_pos (by simpa using hr), List.dropWhile_cons_of_pos (by simpa using hr), ih.1, ih.2, flat_cons]
      exact ⟨rfl, rfl⟩
    · rw [List.takeWhile_cons_of_neg (by simpa using hr), List.dropWhile_cons_of_neg (by simpa using hr)]
      obtain ⟨h0, h1, h2⟩ := h r (by simp)
      obtain ⟨⟨t, c, i⟩, us, d⟩ := r
      cases us with
      | nil => simp at h2
      | cons u us =>
        have hg : ¬ gtK k ((t, c, i), u, d) = true := by unfold gtK; simpa using hr
        simp only [elemsR, elemsAt, List.cons_append]
        rw [List.takeWhile_cons_of_neg hg, List.dropWhile_cons_of_neg hg]
        exact ⟨by simp [flat], by rw [flat_cons]; simp [elemsR, elemsAt]⟩
theorem flat_put {rs : List MR} (h : ∀ r ∈ rs, idxOk r) (k : KV) (p : Nat) (x : MR) : flat (putM rs (skipM rs k p) x) = flat (rs.take p) ++ scan k (elemsR x) (flat (rs.drop p)) := by
  have hd := flat_gt (k := k) (qs := rs.drop p) (fun r hr => h r (List.mem_of_mem_drop hr))
  rw [scan_eq, hd.1, hd.2]
  unfold putM skipM
  have h1 := List.takeWhile_append_dropWhile (p := fun r : MR => decide (0 < cmpK r.1 k)) (l := rs.drop p)
  generalize (rs.drop p).takeWhile (fun r : MR => decide (0 < cmpK r.1 k)) = A at *
  generalize (rs.drop p).dropWhile (fun r : MR => decide (0 < cmpK r.1 k)) = B at *
  rw [List.take_add, ← List.drop_drop, ← h1, List.take_left' rfl, List.drop_left' rfl, flat_append, flat_append, flat_cons]
  simp only [List.append_assoc]
/-- An insert that goes through, on elements. -/
theorem flat_ins {rs : List MR} (h : ∀ r ∈ rs, idxOk r) {k a : KV} (ha : -9223372036854775808 ≤ a.2.2 ∧ a.2.2 ≤ 9223372036854775807) {first : Bool} {s : List UInt8} (h0 : insE rs k a first s = 0) :
    flat (insL rs k a first s) = insF first a k (elemsR (k, runesL s, false)) (flat rs) := by
  unfold insL
  rw [if_pos h0]
  rw [flat_put (insP_facts h a first).1]
  unfold insF insP
  cases first with
  | true => simp [flat]
  | false =>
    simp only [Bool.false_eq_true, if_false]
    cases hf : findM rs a with
    | none =>
      have hb := insE_good h0
      unfold insE at h0
      rw [hb] at h0
      simp [hf] at h0
    | some i =>
      obtain ⟨r, hr, hh, hp⟩ := findM_some h ha hf
      have hi := (List.getElem?_eq_some_iff.1 hr).1
      have hok := h r (List.mem_of_getElem? hr)
      have ho := offM_eq hok ha hh
      have hin := (heldM_iff hok ha).1 hh
      simp only
      rw [List.getD_eq_getElem?_getD, hr, Option.getD_some]
      rw [insA_pos hp]
      have ht : tot ((cutM rs i (offM r a + 1)).take (i + 1)) = tot (rs.take i) + (offM r a).toNat + 1 := by
        unfold cutM
        rw [hr]
        simp only
        split
        · rename_i hm
          have hl : (rs.take i).length = i := by rw [List.length_take]; omega
          rw [List.take_append, List.take_of_length_le (by omega), hl, show i + 1 - i = 1 by omega, List.take_succ_cons, List.take_zero, tot_append, tot_cons]
          simp only [fstM, List.length_take, tot, List.map_nil, List.sum_nil]
          omega
        · rename_i hm
          rw [List.take_succ_eq_append_getElem hi, (List.getElem?_eq_some_iff.1 hr).2, tot_append, tot_cons]
          simp only [tot, List.map_nil, List.sum_nil]
          omega
      have hfl := flat_at ht
      rw [flat_cut h] at hfl
      rw [hfl.1, hfl.2]
end Go.Proofs.Ytcgioboiebanpaa
