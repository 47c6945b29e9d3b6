/- Plain: runs as single elements. -/
import Derived.Test.YtcgioboiebanpaaQb
namespace Go.Proofs.Ytcgioboiebanpaa
open Go.RowKit
set_option linter.unusedVariables false

/-- An element: key, rune, dead. -/
abbrev E1 := KV × Int × Bool
def elemsAt (t : Int) (c : List UInt8) (d : Bool) : Int → List Int → List E1
  | _, [] => []
  | i, u :: us => ((t, c, i), u, d) :: elemsAt t c d (i + 1) us
def elemsR (r : MR) : List E1 := elemsAt r.1.1 r.1.2.1 r.2.2 r.1.2.2 r.2.1
def flat (rs : List MR) : List E1 := rs.flatMap elemsR
theorem flat_cons (r : MR) (rs : List MR) : flat (r :: rs) = elemsR r ++ flat rs := by simp [flat]
theorem flat_append (a b : List MR) : flat (a ++ b) = flat a ++ flat b := by simp [flat]
theorem elemsAt_len (t : Int) (c : List UInt8) (d : Bool) : ∀ (us : List Int) (i : Int), (elemsAt t c d i us).length = us.length
  | [], i => rfl
  | u :: us, i => by simp [elemsAt, elemsAt_len t c d us]
theorem elemsR_len (r : MR) : (elemsR r).length = r.2.1.length := elemsAt_len _ _ _ _ _
theorem flat_len : ∀ rs : List MR, (flat rs).length = tot rs
  | [] => rfl
  | r :: rs => by rw [flat_cons, List.length_append, elemsR_len, flat_len rs, tot_cons]
theorem elemsAt_get (t : Int) (c : List UInt8) (d : Bool) : ∀ (us : List Int) (i : Int) (j : Nat) (e : E1), (elemsAt t c d i us)[j]? = some e → e.1 = (t, c, i + j) ∧ us[j]? = some e.2.1 ∧ e.2.2 = d
  | [], i, j, e, h => by simp [elemsAt] at h
  | u :: us, i, 0, e, h => by
    simp [elemsAt] at h
    subst h
    simp
  | u :: us, i, j + 1, e, h => by
    simp only [elemsAt, List.getElem?_cons_succ] at h
    obtain ⟨h1, h2, h3⟩ := elemsAt_get t c d us (i + 1) j e h
    refine ⟨?_, by simpa using h2, h3⟩
    rw [h1]
    simp only [Prod.mk.injEq, true_and]
    omega
theorem elemsAt_append (t : Int) (c : List UInt8) (d : Bool) : ∀ (a b : List Int) (i : Int), elemsAt t c d i (a ++ b) = elemsAt t c d i a ++ elemsAt t c d (i + a.length) b
  | [], b, i => by simp [elemsAt]
  | u :: a, b, i => by
    simp only [List.cons_append, elemsAt, elemsAt_append t c d a b]
    rw [show i + 1 + (a.length : Int) = i + ((u :: a).length : Nat) by simp; omega]
theorem mem_elemsAt {t : Int} {c : List UInt8} {d : Bool} {us : List Int} {i : Int} {e : E1} (h : e ∈ elemsAt t c d i us) : ∃ j : Nat, j < us.length ∧ e.1 = (t, c, i + j) ∧ us[j]? = some e.2.1 ∧ e.2.2 = d := by
  obtain ⟨j, hj⟩ := List.mem_iff_getElem?.1 h
  have h1 := elemsAt_get t c d us i j e hj
  have h2 := (List.getElem?_eq_some_iff.1 hj).1
  rw [elemsAt_len] at h2
  exact ⟨j, h2, h1⟩
/-- A cut changes nothing. -/
theorem elems_cut {r : MR} (h : idxOk r) {m : Int} (hm : 0 < m ∧ m < r.2.1.length) : elemsR (fstM r m) ++ elemsR (sndM r m) = elemsR r := by
  obtain ⟨n, rfl⟩ : ∃ n : Nat, m = (n : Int) := ⟨m.toNat, by omega⟩
  obtain ⟨h0, h1, h2⟩ := h
  unfold elemsR fstM sndM
  simp only [Int.toNat_natCast]
  rw [wrap64_id (by omega) (by omega)]
  have := elemsAt_append r.1.1 r.1.2.1 r.2.2 (r.2.1.take n) (r.2.1.drop n) r.1.2.2
  rw [List.take_append_drop, List.length_take, Nat.min_eq_left (by omega)] at this
  exact this.symm
theorem flat_cut {rs : List MR} (h : ∀ r ∈ rs, idxOk r) (i : Nat) (m : Int) : flat (cutM rs i m) = flat rs := by
  unfold cutM
  split
  · rename_i r hr
    split
    · rename_i hm
      have hi := (List.getElem?_eq_some_iff.1 hr).1
      have h1 : rs = rs.take i ++ r :: rs.drop (i + 1) := by
        have := List.take_append_drop i rs
        rw [List.drop_eq_getElem_cons hi, (List.getElem?_eq_some_iff.1 hr).2] at this
        exact this.symm
      conv => rhs; rw [h1]
      rw [flat_append, flat_append, flat_cons, flat_cons, flat_cons, ← elems_cut (h r (List.mem_of_getElem? hr)) hm, List.append_assoc]
    · rfl
  · rfl
/-- holds, in plain words. -/
theorem heldM_iff {r : MR} (h : idxOk r) {k : KV} (hk : -9223372036854775808 ≤ k.2.2 ∧ k.2.2 ≤ 9223372036854775807) :
    heldM r k = true ↔ r.1.1 = k.1 ∧ r.1.2.1 = k.2.1 ∧ r.1.2.2 ≤ k.2.2 ∧ k.2.2 < r.1.2.2 + r.2.1.length := by
  obtain ⟨h0, h1, h2⟩ := h
  have e : heldM r k = (decide (r.1.1 = k.1) && (r.1.2.1 == k.2.1) && decide (0 ≤ wrap64 (k.2.2 - r.1.2.2)) && decide (wrap64 (k.2.2 - r.1.2.2) < r.2.1.length)) := rfl
  rw [e]
  simp only [Bool.and_eq_true, decide_eq_true_eq, beq_iff_eq]
  have hw : wrap64 (k.2.2 - r.1.2.2) = k.2.2 - r.1.2.2 ∨ (k.2.2 < 0 ∧ wrap64 (k.2.2 - r.1.2.2) = k.2.2 - r.1.2.2 + 18446744073709551616) := by
    by_cases hh : -9223372036854775808 ≤ k.2.2 - r.1.2.2
    · exact .inl (wrap64_id hh (by omega))
    · right
      refine ⟨by omega, ?_⟩
      unfold wrap64
      omega
  constructor
  · rintro ⟨⟨⟨a1, a2⟩, a3⟩, a4⟩
    exact ⟨a1, a2, by omega, by omega⟩
  · rintro ⟨a1, a2, a3, a4⟩
    exact ⟨⟨⟨a1, a2⟩, by omega⟩, by omega⟩
theorem offM_eq {r : MR} (h : idxOk r) {k : KV} (hk : -9223372036854775808 ≤ k.2.2 ∧ k.2.2 ≤ 9223372036854775807) (hh : heldM r k = true) : offM r k = k.2.2 - r.1.2.2 := by
  have h9 := (heldM_iff h hk).1 hh
  obtain ⟨h0, h1, h2⟩ := h
  show wrap64 (k.2.2 - r.1.2.2) = _
  exact wrap64_id (by omega) (by omega)
/-- An element of a run, by its key. -/
theorem held_mem {r : MR} (h : idxOk r) {k : KV} (hk : -9223372036854775808 ≤ k.2.2 ∧ k.2.2 ≤ 9223372036854775807) : heldM r k = true ↔ ∃ e ∈ elemsR r, e.1 = k := by
  rw [heldM_iff h hk]
  constructor
  · rintro ⟨h1, h2, h3, h4⟩
    have hl : (k.2.2 - r.1.2.2).toNat < (elemsR r).length := by rw [elemsR_len]; omega
    refine ⟨(elemsR r)[(k.2.2 - r.1.2.2).toNat], List.getElem_mem hl, ?_⟩
    have := (elemsAt_get _ _ _ _ _ _ _ (List.getElem?_eq_getElem hl)).1
    rw [this, h1, h2]
    obtain ⟨kt, kc, ki⟩ := k
    simp only [Prod.mk.injEq, true_and]
    simp only at h3
    omega
  · rintro ⟨e, he, rfl⟩
    obtain ⟨j, hj, h1, _⟩ := mem_elemsAt he
    rw [h1]
    simp only [true_and]
    omega
theorem findM_none {rs : List MR} (h : ∀ r ∈ rs, idxOk r) {k : KV} (hk : -9223372036854775808 ≤ k.2.2 ∧ k.2.2 ≤ 9223372036854775807) : findM rs k = none ↔ ∀ e ∈ flat rs, e.1 ≠ k := by
  unfold findM
  rw [List.findIdx?_eq_none_iff]
  constructor
  · intro hh e he hek
    obtain ⟨r, hr, he'⟩ := List.mem_flatMap.1 he
    have := (held_mem (h r hr) hk).2 ⟨e, he', hek⟩
    rw [hh r hr] at this
    cases this
  · intro hh r hr
    cases hm : heldM r k with
    | false => rfl
    | true =>
      obtain ⟨e, he, hek⟩ := (held_mem (h r hr) hk).1 hm
      exact absurd hek (hh e (List.mem_flatMap.2 ⟨r, hr, he⟩))
/-- Where in the elements a key stands. -/
def posF (F : List E1) (k : KV) : Option Nat := F.findIdx? fun e => e.1 == k
theorem posF_app {A B : List E1} {k : KV} (h : ∀ e ∈ A, e.1 ≠ k) : posF (A ++ B) k = (posF B k).map (· + A.length) := by
  unfold posF
  rw [List.findIdx?_append]
  have : A.findIdx? (fun e => e.1 == k) = none := by
    rw [List.findIdx?_eq_none_iff]
    intro e he
    simpa using h e he
  rw [this]
  simp
theorem posF_hit {A B : List E1} {e : E1} {k : KV} (h : ∀ e ∈ A, e.1 ≠ k) (he : e.1 = k) : posF (A ++ e :: B) k = some A.length := by
  rw [posF_app h]
  unfold posF
  rw [List.findIdx?_cons]
  simp [he]
theorem findM_some {rs : List MR} (h : ∀ r ∈ rs, idxOk r) {k : KV} (hk : -9223372036854775808 ≤ k.2.2 ∧ k.2.2 ≤ 9223372036854775807) {i : Nat} (hf : findM rs k = some i) :
    ∃ r, rs[i]? = some r ∧ heldM r k = true ∧ posF (flat rs) k = some (tot (rs.take i) + (offM r k).toNat) := by
  have hi := findM_lt hf
  unfold findM at hf
  rw [List.findIdx?_eq_some_iff_getElem] at hf
  obtain ⟨_, h1, h2⟩ := hf
  refine ⟨rs[i], List.getElem?_eq_getElem hi, h1, ?_⟩
  have hok := h rs[i] (List.getElem_mem hi)
  have ho := offM_eq hok hk h1
  have hh := (heldM_iff hok hk).1 h1
  have hs : rs = rs.take i ++ rs[i] :: rs.drop (i + 1) := by
    have := List.take_append_drop i rs
    rw [List.drop_eq_getElem_cons hi] at this
    exact this.symm
  have hl : (offM rs[i] k).toNat < (elemsR rs[i]).length := by rw [elemsR_len, ho]; omega
  have hel : elemsR rs[i] = (elemsR rs[i]).take (offM rs[i] k).toNat ++ (elemsR rs[i])[(offM rs[i] k).toNat] :: (elemsR rs[i]).drop ((offM rs[i] k).toNat + 1) := by
    have := List.take_append_drop (offM rs[i] k).toNat (elemsR rs[i])
    rw [List.drop_eq_getElem_cons hl] at this
    exact this.symm
  have hfl : flat rs = (flat (rs.take i) ++ (elemsR rs[i]).take (offM rs[i] k).toNat) ++ (elemsR rs[i])[(offM rs[i] k).toNat] :: ((elemsR rs[i]).drop ((offM rs[i] k).toNat + 1) ++ flat (rs.drop (i + 1))) := by
    conv => lhs; rw [hs]
    rw [flat_append, flat_cons]
    conv => lhs; rw [hel]
    simp only [List.append_assoc, List.cons_append]
  rw [hfl, posF_hit]
  · rw [List.length_append, flat_len, List.length_take, Nat.min_eq_left (by omega)]
  · intro e he hek
    rcases List.mem_append.1 he with he | he
    · obtain ⟨r, hr, he'⟩ := List.mem_flatMap.1 he
      obtain ⟨j, hj⟩ := List.mem_iff_getElem?.1 hr
      rw [List.getElem?_take] at hj
      split at hj
      · rename_i hji
        obtain ⟨hjl, rfl⟩ := List.getElem?_eq_some_iff.1 hj
        have h9 := h2 j hji
        have h8 := (held_mem (h rs[j] (List.getElem_mem hjl)) hk).2 ⟨e, he', hek⟩
        exact absurd h8 h9
      · cases hj
    · obtain ⟨j, hj⟩ := List.mem_iff_getElem?.1 he
      rw [List.getElem?_take] at hj
      split at hj
      · rename_i hji
        have h9 := (elemsAt_get _ _ _ _ _ _ _ hj).1
        rw [h9] at hek
        have h8 := congrArg (fun x => x.2.2) hek
        simp only at h8
        omega
      · cases hj
  · have h9 := (elemsAt_get _ _ _ _ _ _ _ (List.getElem?_eq_getElem hl)).1
    refine h9.trans ?_
    rw [hh.1, hh.2.1]
    obtain ⟨kt, kc, ki⟩ := k
    simp only [Prod.mk.injEq, true_and]
    simp only at ho hh
    omega
end Go.Proofs.Ytcgioboiebanpaa
