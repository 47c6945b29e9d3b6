/- Plain: deletions, on elements. -/
import Derived.Test.YtcgioboiebanpaaPc
namespace Go.Proofs.Ytcgioboiebanpaa
open Go.RowKit
set_option linter.unusedVariables false

theorem meets_iff {r : MR} (h : idxOk r) {k : KV} {n : Int} (hn : 1 ≤ n ∧ n ≤ 2147483648) (hk : 0 ≤ k.2.2 ∧ k.2.2 ≤ 9223372036854775807) :
    meetsM r k n = true ↔ r.1.1 = k.1 ∧ r.1.2.1 = k.2.1 ∧ r.1.2.2 < k.2.2 + n ∧ k.2.2 < r.1.2.2 + r.2.1.length := by
  obtain ⟨h0, h1, h2⟩ := h
  have e : meetsM r k n = (decide (r.1.1 = k.1) && (r.1.2.1 == k.2.1) && decide (r.1.2.2 < wrap64 (k.2.2 + n)) && decide (k.2.2 < wrap64 (r.1.2.2 + r.2.1.length))) := rfl
  rw [e]
  simp only [Bool.and_eq_true, decide_eq_true_eq, beq_iff_eq]
  rw [wrap64_id (x := r.1.2.2 + r.2.1.length) (by omega) (by omega)]
  by_cases ho : k.2.2 + n ≤ 9223372036854775807
  · rw [wrap64_id (by omega) ho]
    constructor
    · rintro ⟨⟨⟨a, b⟩, c⟩, d⟩; exact ⟨a, b, c, d⟩
    · rintro ⟨a, b, c, d⟩; exact ⟨⟨⟨a, b⟩, c⟩, d⟩
  · constructor
    · rintro ⟨⟨⟨a, b⟩, c⟩, d⟩; exact absurd d (by omega)
    · rintro ⟨a, b, c, d⟩; exact absurd d (by omega)
theorem rng_iff {k : KV} {n : Int} {t : Int} {c : List UInt8} {i : Int} {u : Int} {d : Bool} : rngK k n ((t, c, i), u, d) = true ↔ t = k.1 ∧ c = k.2.1 ∧ k.2.2 ≤ i ∧ i < k.2.2 + n := by
  unfold rngK
  exact decide_eq_true_iff
theorem meets_no {r : MR} (h : idxOk r) {k : KV} {n : Int} (hn : 1 ≤ n ∧ n ≤ 2147483648) (hk : 0 ≤ k.2.2 ∧ k.2.2 ≤ 9223372036854775807) (hm : ¬ meetsM r k n = true) : ∀ e ∈ elemsR r, rngK k n e = false := by
  intro e he
  obtain ⟨j, hj, h1, _⟩ := mem_elemsAt he
  cases hr : rngK k n e with
  | false => rfl
  | true =>
    obtain ⟨⟨t, c, i⟩, u, d⟩ := e
    rw [rng_iff] at hr
    simp only at h1
    obtain ⟨r1, r2, r3⟩ := by simpa using h1
    refine absurd ((meets_iff h hn hk).2 ⟨?_, ?_, ?_, ?_⟩) hm
    · rw [← r1]; exact hr.1
    · rw [← r2]; exact hr.2.1
    · omega
    · omega
theorem kill_none {k : KV} {n : Int} {L : List E1} (h : ∀ e ∈ L, rngK k n e = false) : L.map (killK k n) = L := by
  have : L.map (killK k n) = L.map id := List.map_congr_left fun e he => by unfold killK; rw [h e he]; rfl
  rw [this, List.map_id]
theorem elemsAt_dead (t : Int) (c : List UInt8) (d : Bool) : ∀ (us : List Int) (i : Int), (elemsAt t c d i us).map (fun e => (e.1, e.2.1, true)) = elemsAt t c true i us
  | [], i => rfl
  | u :: us, i => by simp [elemsAt, elemsAt_dead t c d us]
theorem kill_all {k : KV} {n : Int} {x : MR} (h : ∀ e ∈ elemsR x, rngK k n e = true) : (elemsR x).map (killK k n) = elemsR (x.1, x.2.1, true) := by
  have : (elemsR x).map (killK k n) = (elemsR x).map (fun e => (e.1, e.2.1, true)) := List.map_congr_left fun e he => by unfold killK; rw [if_pos (h e he)]
  rw [this]
  exact elemsAt_dead _ _ _ _ _
theorem kill_dead {k : KV} {n : Int} {x : MR} (hd : x.2.2 = true) : (elemsR x).map (killK k n) = elemsR x := by
  have : (elemsR x).map (killK k n) = (elemsR x).map id := List.map_congr_left fun e he => by
    obtain ⟨j, hj, h1, h2, h3⟩ := mem_elemsAt he
    unfold killK
    split
    · have h4 : e.2.2 = true := h3.trans hd
      obtain ⟨a, b, c⟩ := e
      simp only at h4
      rw [h4]
      rfl
    · rfl
  rw [this, List.map_id]
theorem split_at {rs : List MR} {i : Nat} {r : MR} (h : rs[i]? = some r) : ∃ A B, rs = A ++ r :: B ∧ A.length = i := by
  obtain ⟨hi, rfl⟩ := List.getElem?_eq_some_iff.1 h
  refine ⟨rs.take i, rs.drop (i + 1), ?_, by rw [List.length_take]; omega⟩
  have := List.take_append_drop i rs
  rw [List.drop_eq_getElem_cons hi] at this
  exact this.symm
theorem cut_split {A B : List MR} {r : MR} {m : Int} (hm : 0 < m ∧ m < r.2.1.length) : cutM (A ++ r :: B) A.length m = A ++ fstM r m :: sndM r m :: B := by
  unfold cutM
  rw [List.getElem?_append_right (Nat.le_refl _), Nat.sub_self]
  simp only [List.getElem?_cons_zero]
  rw [if_pos hm, List.take_left' rfl, List.drop_append, List.drop_of_length_le (by omega), show A.length + 1 - A.length = 1 by omega]
  rfl
theorem cut_whole {A B : List MR} {r : MR} {m : Int} (hm : ¬ (0 < m ∧ m < r.2.1.length)) : cutM (A ++ r :: B) A.length m = A ++ r :: B := by
  unfold cutM
  rw [List.getElem?_append_right (Nat.le_refl _), Nat.sub_self]
  simp only [List.getElem?_cons_zero]
  rw [if_neg hm]
theorem take_one {A B : List MR} {x : MR} : (A ++ x :: B).take (A.length + 1) = A ++ [x] ∧ (A ++ x :: B).drop (A.length + 1) = B := by
  constructor
  · rw [List.take_append, List.take_of_length_le (by omega), show A.length + 1 - A.length = 1 by omega]; rfl
  · rw [List.drop_append, List.drop_of_length_le (by omega), show A.length + 1 - A.length = 1 by omega]; rfl
set_option maxHeartbeats 1000000 in
theorem delGo_flat (k : KV) (n : Int) (hn : 1 ≤ n ∧ n ≤ 2147483647) (hk : 0 ≤ k.2.2 ∧ k.2.2 ≤ 9223372036854775807) : ∀ (f : Nat) (rs : List MR) (i : Nat) (lv : Int), (∀ r ∈ rs, idxOk r) → tot (rs.drop i) ≤ f →
    flat (delGo k n f rs i lv).1 = flat (rs.take i) ++ (flat (rs.drop i)).map (killK k n)
  | 0, rs, i, lv, h, hf => by
    have h1 := flat_len (rs.drop i)
    have h2 : flat (rs.drop i) = [] := List.length_eq_zero_iff.1 (by omega)
    rw [h2, List.map_nil, List.append_nil]
    conv => lhs; rw [show (delGo k n 0 rs i lv).1 = rs from rfl, ← List.take_append_drop i rs, flat_append, h2, List.append_nil]
  | f + 1, rs, i, lv, h, hf => by
    cases hr : rs[i]? with
    | none =>
      have hl := List.getElem?_eq_none_iff.1 hr
      unfold delGo
      rw [hr, List.drop_of_length_le hl, List.take_of_length_le hl]
      simp [flat]
    | some r =>
      obtain ⟨A, B, rfl, rfl⟩ := split_at hr
      have hok := h r (by simp)
      have hok' := hok
      obtain ⟨h0, h1, h2⟩ := hok'
      have hd : (A ++ r :: B).drop A.length = r :: B := List.drop_left' rfl
      have ht : (A ++ r :: B).take A.length = A := List.take_left' rfl
      rw [hd, tot_cons] at hf
      rw [hd, ht, flat_cons, List.map_append]
      unfold delGo
      rw [hr]
      simp only
      by_cases hm : meetsM r k n = true
      · rw [if_pos hm]
        have hmm := (meets_iff hok ⟨hn.1, by omega⟩ hk).1 hm
        by_cases hlt : r.1.2.2 < k.2.2
        · rw [if_pos hlt]
          have hcut := cut_split (A := A) (B := B) (r := r) (m := k.2.2 - r.1.2.2) (by omega)
          have hfx := cutM_facts h hr (k.2.2 - r.1.2.2)
          have hel := elems_cut hok (m := k.2.2 - r.1.2.2) (by omega)
          rw [hcut] at hfx ⊢
          have hto := take_one (A := A) (B := sndM r (k.2.2 - r.1.2.2) :: B) (x := fstM r (k.2.2 - r.1.2.2))
          rw [delGo_flat k n hn hk f _ _ lv hfx.1 (by
            rw [hto.2, tot_cons]
            simp only [sndM, List.length_drop]
            omega), hto.1, hto.2, flat_append, flat_cons (sndM r (k.2.2 - r.1.2.2)) B, List.map_append, ← hel, List.map_append]
          have hno : (elemsR (fstM r (k.2.2 - r.1.2.2))).map (killK k n) = elemsR (fstM r (k.2.2 - r.1.2.2)) := kill_none fun e he => by
            obtain ⟨j, hj, e1, _⟩ := mem_elemsAt he
            obtain ⟨⟨t, c, i⟩, u, d⟩ := e
            cases hq : rngK k n ((t, c, i), u, d) with
            | false => rfl
            | true =>
              rw [rng_iff] at hq
              simp only [fstM, List.length_take] at hj
              simp only [fstM, Prod.mk.injEq] at e1
              omega
          rw [hno]
          simp [flat]
        · rw [if_neg hlt]
          by_cases hc : 0 < k.2.2 + n - r.1.2.2 ∧ k.2.2 + n - r.1.2.2 < r.2.1.length
          · have hcut := cut_split (A := A) (B := B) (r := r) (m := k.2.2 + n - r.1.2.2) hc
            have hfx := cutM_facts h hr (k.2.2 + n - r.1.2.2)
            have hel := elems_cut hok (m := k.2.2 + n - r.1.2.2) hc
            rw [hcut] at hfx ⊢
            have hto := fun x => take_one (A := A) (B := sndM r (k.2.2 + n - r.1.2.2) :: B) (x := x)
            have hget : (A ++ fstM r (k.2.2 + n - r.1.2.2) :: sndM r (k.2.2 + n - r.1.2.2) :: B)[A.length]? = some (fstM r (k.2.2 + n - r.1.2.2)) := by
              rw [List.getElem?_append_right (Nat.le_refl _), Nat.sub_self]; rfl
            have hset := set_facts hfx.1 hget
            have hall : ∀ e ∈ elemsR (fstM r (k.2.2 + n - r.1.2.2)), rngK k n e = true := fun e he => by
              obtain ⟨j, hj, e1, _⟩ := mem_elemsAt he
              obtain ⟨⟨t, c, i⟩, u, d⟩ := e
              rw [rng_iff]
              simp only [fstM, List.length_take] at hj
              simp only [fstM, Prod.mk.injEq] at e1
              exact ⟨e1.1.trans hmm.1, e1.2.1.trans hmm.2.1, by omega, by omega⟩
            have hts : tot (sndM r (k.2.2 + n - r.1.2.2) :: B) ≤ f := by
              rw [tot_cons]
              simp only [sndM, List.length_drop]
              omega
            rw [hget]
            simp only
            rw [← hel, List.map_append]
            by_cases hdd : (fstM r (k.2.2 + n - r.1.2.2)).2.2 = true
            · rw [if_pos hdd, delGo_flat k n hn hk f _ _ _ hfx.1 (by rw [(hto _).2]; exact hts), (hto _).1, (hto _).2, flat_append, flat_cons (sndM r (k.2.2 + n - r.1.2.2)) B, List.map_append, kill_dead hdd]
              simp [flat]
            · have hse : (A ++ fstM r (k.2.2 + n - r.1.2.2) :: sndM r (k.2.2 + n - r.1.2.2) :: B).set A.length ((fstM r (k.2.2 + n - r.1.2.2)).1, (fstM r (k.2.2 + n - r.1.2.2)).2.1, true) = A ++ ((fstM r (k.2.2 + n - r.1.2.2)).1, (fstM r (k.2.2 + n - r.1.2.2)).2.1, true) :: sndM r (k.2.2 + n - r.1.2.2) :: B := by
                rw [List.set_append_right _ _ (Nat.le_refl _), Nat.sub_self]; rfl
              rw [hse] at hset
              rw [if_neg hdd, hse, delGo_flat k n hn hk f _ _ _ hset.1 (by rw [(hto _).2]; exact hts), (hto _).1, (hto _).2, flat_append, flat_cons (sndM r (k.2.2 + n - r.1.2.2)) B, List.map_append, kill_all hall]
              simp [flat]
          · have hcut := cut_whole (A := A) (B := B) (r := r) (m := k.2.2 + n - r.1.2.2) hc
            rw [hcut, hr]
            have hto := fun x => take_one (A := A) (B := B) (x := x)
            have hset := set_facts h hr
            have hall : ∀ e ∈ elemsR r, rngK k n e = true := fun e he => by
              obtain ⟨j, hj, e1, _⟩ := mem_elemsAt he
              obtain ⟨⟨t, c, i⟩, u, d⟩ := e
              rw [rng_iff]
              simp only [Prod.mk.injEq] at e1
              exact ⟨e1.1.trans hmm.1, e1.2.1.trans hmm.2.1, by omega, by omega⟩
            simp only
            by_cases hdd : r.2.2 = true
            · rw [if_pos hdd, delGo_flat k n hn hk f _ _ _ h (by rw [(hto _).2]; omega), (hto _).1, (hto _).2, flat_append, kill_dead hdd]
              simp [flat]
            · have hse : (A ++ r :: B).set A.length (r.1, r.2.1, true) = A ++ (r.1, r.2.1, true) :: B := by
                rw [List.set_append_right _ _ (Nat.le_refl _), Nat.sub_self]; rfl
              rw [hse] at hset
              rw [if_neg hdd, hse, delGo_flat k n hn hk f _ _ _ hset.1 (by rw [(hto _).2]; omega), (hto _).1, (hto _).2, flat_append, kill_all hall]
              simp [flat]
      · rw [if_neg hm]
        have hto := take_one (A := A) (B := B) (x := r)
        rw [delGo_flat k n hn hk f _ _ lv h (by rw [hto.2]; omega), hto.1, hto.2, flat_append, kill_none (meets_no hok ⟨hn.1, by omega⟩ hk hm)]
        simp [flat]
end Go.Proofs.Ytcgioboiebanpaa
