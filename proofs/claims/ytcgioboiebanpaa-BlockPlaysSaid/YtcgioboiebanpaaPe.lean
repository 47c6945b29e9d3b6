/- Plain: two acts, in either order. -/
import Derived.Test.YtcgioboiebanpaaPd
namespace Go.Proofs.Ytcgioboiebanpaa
open Go.RowKit
set_option linter.unusedVariables false

theorem cnt_at {k : KV} {n : Int} (hn : 0 ≤ n) (d : Bool) : ∀ (us : List Int) (i : Int), ((elemsAt k.1 k.2.1 d i us).countP (rngK k n) : Int) = max 0 (min (k.2.2 + n) (i + us.length) - max k.2.2 i)
  | [], i => by simp [elemsAt]; omega
  | u :: us, i => by
    have ih := cnt_at (k := k) hn d us (i + 1)
    rw [elemsAt, List.countP_cons]
    by_cases h : rngK k n ((k.1, k.2.1, i), u, d) = true
    · rw [if_pos h]
      rw [rng_iff] at h
      simp only [List.length_cons] at ih ⊢
      omega
    · rw [if_neg h]
      rw [rng_iff] at h
      simp only [true_and] at h
      simp only [List.length_cons] at ih ⊢
      omega
theorem cnt_run {r : MR} (h : idxOk r) {k : KV} {n : Int} (hn : 1 ≤ n ∧ n ≤ 2147483647) (hk : 0 ≤ k.2.2 ∧ k.2.2 ≤ 9223372036854775807) : foundR r k n = ((elemsR r).countP (rngK k n) : Int) := by
  have hn' : 1 ≤ n ∧ n ≤ 2147483648 := ⟨hn.1, by omega⟩
  unfold foundR
  by_cases hm : meetsM r k n = true
  · rw [if_pos ⟨hn.2, hk.1, hm⟩]
    have hmm := (meets_iff h hn' hk).1 hm
    have := cnt_at (k := k) (n := n) (by omega) r.2.2 r.2.1 r.1.2.2
    unfold elemsR
    rw [hmm.1, hmm.2.1, this]
    omega
  · rw [if_neg (fun hh => hm hh.2.2)]
    rw [List.countP_eq_zero.2 (fun e he => by rw [meets_no h hn' hk hm e he]; simp)]
    rfl
theorem cnt_doc {k : KV} {n : Int} (hn : 1 ≤ n ∧ n ≤ 2147483647) (hk : 0 ≤ k.2.2 ∧ k.2.2 ≤ 9223372036854775807) : ∀ {rs : List MR}, (∀ r ∈ rs, idxOk r) → foundM rs k n = ((flat rs).countP (rngK k n) : Int)
  | [], h => by simp [foundM, flat]
  | r :: rs, h => by
    have ih := cnt_doc hn hk (rs := rs) (fun x hx => h x (by simp [hx]))
    have h1 := cnt_run (h r (by simp)) hn hk
    rw [flat_cons, List.countP_append]
    unfold foundM at ih ⊢
    rw [List.map_cons, List.sum_cons, ih, h1]
    omega
theorem found_none {k : KV} {n : Int} (h : ¬ (n ≤ 2147483647 ∧ 0 ≤ k.2.2)) : ∀ rs : List MR, foundM rs k n = 0
  | [] => rfl
  | r :: rs => by
    have ih := found_none h rs
    unfold foundM at ih ⊢
    rw [List.map_cons, List.sum_cons, ih]
    unfold foundR
    rw [if_neg (fun hh => h ⟨hh.1, hh.2.1⟩)]
    rfl
/-- What a deletion that goes through does. -/
theorem del_facts {rs : List MR} (h : ∀ r ∈ rs, idxOk r) {k : KV} {n : Int} (hk : k.2.2 ≤ 9223372036854775807) (h0 : delE rs k n = 0) :
    ((flat rs).countP (rngK k n) : Int) = n ∧ flat (delR rs k n) = (flat rs).map (killK k n) := by
  have h0' := h0
  unfold delE at h0'
  split at h0'
  · cases h0'
  rename_i hn
  split at h0'
  · rename_i hf
    by_cases hc : n ≤ 2147483647 ∧ 0 ≤ k.2.2
    · refine ⟨by rw [← cnt_doc ⟨by omega, hc.1⟩ ⟨hc.2, hk⟩ h]; exact hf, ?_⟩
      unfold delR delL
      rw [if_pos h0]
      have := delGo_flat k n ⟨by omega, hc.1⟩ ⟨hc.2, hk⟩ (tot rs) rs 0 (liveM rs) h (by simp)
      simpa [flat] using this
    · have := found_none hc rs
      omega
  · cases h0'
theorem fresh_facts {rs : List MR} (h : ∀ r ∈ rs, idxOk r) {k : KV} {n : Int} (hn : 1 ≤ n ∧ n ≤ 2147483648) (hk : 0 ≤ k.2.2 ∧ k.2.2 ≤ 9223372036854775807) (h0 : freshM rs k n = 0) : ∀ e ∈ flat rs, rngK k n e = false := by
  intro e he
  obtain ⟨r, hr, he'⟩ := List.mem_flatMap.1 he
  refine meets_no (h r hr) hn hk ?_ e he'
  intro hm
  unfold freshM at h0
  rw [if_pos (List.any_eq_true.2 ⟨r, hr, hm⟩)] at h0
  cases h0
/-- What an insert that goes through says. -/
structure InsOk (rs : List MR) (k a : KV) (first : Bool) (us : List Int) : Prop where
  pos : 0 < us.length
  idx : 0 ≤ k.2.2 ∧ k.2.2 + us.length ≤ 2147483648
  fresh : ∀ e ∈ flat rs, rngK k us.length e = false
  at_ : first = false → ∃ e ∈ flat rs, e.1 = a
theorem ins_facts {rs : List MR} (h : ∀ r ∈ rs, idxOk r) {k a : KV} (ha : -9223372036854775808 ≤ a.2.2 ∧ a.2.2 ≤ 9223372036854775807) {first : Bool} {s : List UInt8} (h0 : insE rs k a first s = 0) : InsOk rs k a first (runesL s) := by
  obtain ⟨g1, g2, g3, g4⟩ := insBad_ok (insE_good h0)
  have hb := insE_good h0
  unfold insE at h0
  rw [hb] at h0
  simp only [Bool.false_eq_true, if_false] at h0
  cases first with
  | true =>
    rw [if_pos rfl] at h0
    exact ⟨g2, ⟨g3, g4⟩, fresh_facts h ⟨by omega, by omega⟩ ⟨g3, by omega⟩ h0, fun h => by cases h⟩
  | false =>
    rw [if_neg (by simp)] at h0
    cases hf : findM rs a with
    | none => rw [hf] at h0; cases h0
    | some i =>
      rw [hf] at h0
      simp only at h0
      split at h0
      · cases h0
      · refine ⟨g2, ⟨g3, g4⟩, fresh_facts h ⟨by omega, by omega⟩ ⟨g3, by omega⟩ h0, fun _ => ?_⟩
        obtain ⟨r, hr, hh, _⟩ := findM_some h ha hf
        obtain ⟨e, he, hek⟩ := (held_mem (h r (List.mem_of_getElem? hr)) ha).1 hh
        exact ⟨e, List.mem_flatMap.2 ⟨r, List.mem_of_getElem? hr, he⟩, hek⟩
theorem run_rng {k : KV} {us : List Int} {d : Bool} : ∀ e ∈ elemsR (k, us, d), rngK k us.length e = true := by
  intro e he
  obtain ⟨j, hj, e1, _⟩ := mem_elemsAt he
  obtain ⟨⟨t, c, i⟩, u, d⟩ := e
  rw [rng_iff]
  simp only [Prod.mk.injEq] at e1
  simp only at hj
  exact ⟨e1.1, e1.2.1, by omega, by omega⟩
theorem mem_insF {first : Bool} {a k : KV} {X F : List E1} {e : E1} (h : first = false → ∃ x ∈ F, x.1 = a) : e ∈ insF first a k X F ↔ e ∈ X ∨ e ∈ F := by
  unfold insF
  cases first with
  | true => exact mem_scan
  | false => exact mem_insA (h rfl)
theorem cnt_scan {p : E1 → Bool} {k : KV} {X : List E1} : ∀ L, (scan k X L).countP p = X.countP p + L.countP p
  | [] => by simp [scan]
  | e :: L => by
    by_cases h : gtK k e = true
    · rw [scan_go h, List.countP_cons, cnt_scan L, List.countP_cons]; omega
    · rw [scan_stop h, List.countP_append]
theorem cnt_insA {p : E1 → Bool} {a k : KV} {X : List E1} : ∀ L, (∃ x ∈ L, x.1 = a) → (insA a k X L).countP p = X.countP p + L.countP p
  | [], h => by obtain ⟨x, hx, _⟩ := h; simp at hx
  | e :: L, h => by
    rw [insA, List.countP_cons, List.countP_cons]
    by_cases hb : e.1 = a
    · rw [if_pos hb, cnt_scan]; omega
    · have hF : ∃ x ∈ L, x.1 = a := by
        obtain ⟨x, hx, hxa⟩ := h
        rcases List.mem_cons.1 hx with rfl | hx
        · exact absurd hxa hb
        · exact ⟨x, hx, hxa⟩
      rw [if_neg hb, cnt_insA L hF]; omega
theorem cnt_insF {p : E1 → Bool} {first : Bool} {a k : KV} {X F : List E1} (h : first = false → ∃ x ∈ F, x.1 = a) : (insF first a k X F).countP p = X.countP p + F.countP p := by
  unfold insF
  cases first with
  | true => exact cnt_scan F
  | false => exact cnt_insA F (h rfl)
theorem ins_ins {rs : List MR} (h : ∀ r ∈ rs, idxOk r) {k1 a1 k2 a2 : KV} {f1 f2 : Bool} {s1 s2 : List UInt8} (r1 : rng a1.2.2) (r2 : rng a2.2.2) (h1 : insE rs k1 a1 f1 s1 = 0) (h12 : insE (insL rs k1 a1 f1 s1) k2 a2 f2 s2 = 0)
    (h2 : insE rs k2 a2 f2 s2 = 0) (h21 : insE (insL rs k2 a2 f2 s2) k1 a1 f1 s1 = 0) : flat (insL (insL rs k1 a1 f1 s1) k2 a2 f2 s2) = flat (insL (insL rs k2 a2 f2 s2) k1 a1 f1 s1) := by
  have i1 := ins_facts h r1 h1
  have i2 := ins_facts h r2 h2
  have g1 := (insL_facts h k1 a1 f1 s1).1
  have g2 := (insL_facts h k2 a2 f2 s2).1
  have i12 := ins_facts g1 r2 h12
  rw [flat_ins g1 r2 h12, flat_ins h r1 h1, flat_ins g2 r1 h21, flat_ins h r2 h2]
  refine insF_insF (blk_run k2 i2.pos false) (blk_run k1 i1.pos false) ?_ ?_ ?_ _
  · rintro rfl
    obtain ⟨e, Y, hX, he⟩ := (blk_run k2 i1.pos false).head
    have hmem : e ∈ elemsR (k2, runesL s1, false) := by rw [hX]; simp
    have h8 := i12.fresh e (by rw [flat_ins h r1 h1]; exact (mem_insF i1.at_).2 (.inl hmem))
    have h9 : rngK k2 (runesL s2).length e = true := by
      obtain ⟨ek, eu, ed⟩ := e
      simp only at he
      subst he
      exact rng_iff.2 ⟨rfl, rfl, Int.le_refl _, Int.lt_add_of_pos_right _ (by have := i2.pos; omega)⟩
    rw [h9] at h8
    cases h8
  · intro hf e he hea
    obtain ⟨x, hx, hxa⟩ := i1.at_ hf
    have h8 := i2.fresh x hx
    have h9 := run_rng e he
    unfold rngK at h8 h9
    rw [hxa, ← hea, h9] at h8
    cases h8
  · intro hf e he hea
    obtain ⟨x, hx, hxa⟩ := i2.at_ hf
    have h8 := i1.fresh x hx
    have h9 := run_rng e he
    unfold rngK at h8 h9
    rw [hxa, ← hea, h9] at h8
    cases h8
theorem ins_del {rs : List MR} (h : ∀ r ∈ rs, idxOk r) {k1 a1 k2 : KV} {f1 : Bool} {s1 : List UInt8} {n : Int} (r1 : rng a1.2.2) (r2 : rng k2.2.2) (h1 : insE rs k1 a1 f1 s1 = 0) (h12 : delE (insL rs k1 a1 f1 s1) k2 n = 0)
    (h2 : delE rs k2 n = 0) (h21 : insE (delR rs k2 n) k1 a1 f1 s1 = 0) : flat (delR (insL rs k1 a1 f1 s1) k2 n) = flat (insL (delR rs k2 n) k1 a1 f1 s1) := by
  have i1 := ins_facts h r1 h1
  have g1 := (insL_facts h k1 a1 f1 s1).1
  have g2 := (delL_facts h k2 n).1
  have d2 := del_facts h r2.2 h2
  have d12 := del_facts g1 r2.2 h12
  rw [d12.2, flat_ins h r1 h1, flat_ins g2 r1 h21, d2.2, map_insF (killK_key k2 n)]
  have hc := d12.1
  rw [flat_ins h r1 h1, cnt_insF i1.at_] at hc
  have h0 : (elemsR (k1, runesL s1, false)).countP (rngK k2 n) = 0 := by have := d2.1; omega
  rw [kill_none fun e he => by have := List.countP_eq_zero.1 h0 e he; simpa using this]
theorem del_del {rs : List MR} (h : ∀ r ∈ rs, idxOk r) {k1 k2 : KV} {n m : Int} (r1 : rng k1.2.2) (r2 : rng k2.2.2) (h1 : delE rs k1 n = 0) (h12 : delE (delR rs k1 n) k2 m = 0)
    (h2 : delE rs k2 m = 0) (h21 : delE (delR rs k2 m) k1 n = 0) : flat (delR (delR rs k1 n) k2 m) = flat (delR (delR rs k2 m) k1 n) := by
  have g1 := (delL_facts h k1 n).1
  have g2 := (delL_facts h k2 m).1
  rw [(del_facts g1 r2.2 h12).2, (del_facts h r1.2 h1).2, (del_facts g2 r1.2 h21).2, (del_facts h r2.2 h2).2, List.map_map, List.map_map]
  exact List.map_congr_left fun e _ => kill_kill k2 k1 m n e
end Go.Proofs.Ytcgioboiebanpaa
