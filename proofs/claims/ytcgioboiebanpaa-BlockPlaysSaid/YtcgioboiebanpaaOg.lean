/- Documents as acts leave them: one word for all that holds. -/
import Derived.Test.YtcgioboiebanpaaOf
namespace Go.Proofs.Ytcgioboiebanpaa
open Go.RowKit Go.Maps
set_option linter.unusedVariables false

/-- How many live elements there are. -/
def liveM (rs : List MR) : Nat := (rs.map fun r => if r.2.2 = true then 0 else r.2.1.length).sum
theorem liveM_cons (r : MR) (rs : List MR) : liveM (r :: rs) = (if r.2.2 = true then 0 else r.2.1.length) + liveM rs := by simp [liveM]
theorem liveM_append (a b : List MR) : liveM (a ++ b) = liveM a + liveM b := by simp [liveM]
theorem liveM_tot : ∀ rs : List MR, liveM rs ≤ tot rs
  | [] => by simp [liveM, tot]
  | r :: rs => by
    rw [liveM_cons, tot_cons]
    have := liveM_tot rs
    split <;> omega
theorem liveM_cut (rs : List MR) (i : Nat) (m : Int) : liveM (cutM rs i m) = liveM rs := by
  unfold cutM
  split
  · rename_i r hr
    split
    · rename_i hm
      have hi := (List.getElem?_eq_some_iff.1 hr).1
      have h1 : rs = rs.take i ++ r :: rs.drop (i + 1) := by
        have := List.take_append_drop i rs
        rw [List.drop_eq_getElem_cons hi, (List.getElem?_eq_some_iff.1 hr).2] at this
        exact this.symm
      conv => rhs; rw [h1]
      rw [liveM_append, liveM_append, liveM_cons, liveM_cons, liveM_cons]
      simp only [fstM, sndM, List.length_take, List.length_drop]
      split <;> omega
    · rfl
  · rfl
theorem liveM_put (rs : List MR) (p : Nat) (r : MR) : liveM (putM rs p r) = liveM rs + (if r.2.2 = true then 0 else r.2.1.length) := by
  unfold putM
  rw [liveM_append, liveM_cons]
  have : liveM rs = liveM (rs.take p) + liveM (rs.drop p) := by rw [← liveM_append, List.take_append_drop]
  omega
theorem tot_put (rs : List MR) (p : Nat) (r : MR) : tot (putM rs p r) = tot rs + r.2.1.length := by
  unfold putM
  rw [tot_append, tot_cons]
  have := tot_take (rs := rs) p
  omega
theorem mem_put {rs : List MR} {p : Nat} {r x : MR} (h : x ∈ putM rs p r) : x ∈ rs ∨ x = r := by
  unfold putM at h
  rcases List.mem_append.1 h with h | h
  · exact .inl (List.mem_of_mem_take h)
  · rcases List.mem_cons.1 h with h | h
    · exact .inr h
    · exact .inl (List.mem_of_mem_drop h)
theorem insP_facts {rs : List MR} (h : ∀ r ∈ rs, idxOk r) (a : KV) (first : Bool) : (∀ x ∈ (insP rs a first).1, idxOk x) ∧ tot (insP rs a first).1 = tot rs ∧ liveM (insP rs a first).1 = liveM rs := by
  unfold insP
  split
  · exact ⟨h, rfl, rfl⟩
  · split
    · exact ⟨h, rfl, rfl⟩
    · rename_i i hi
      have hl := findM_lt hi
      have hf := cutM_facts h (List.getElem?_eq_getElem hl) (offM (rs.getD i ((0, [], 0), [], false)) a + 1)
      exact ⟨hf.1, hf.2.1, liveM_cut _ _ _⟩
theorem insE_good {rs : List MR} {k a : KV} {first : Bool} {s : List UInt8} (h : insE rs k a first s = 0) : insBad s k = false := by
  unfold insE at h
  cases hb : insBad s k with
  | false => rfl
  | true => rw [hb] at h; simp at h
theorem insBad_ok {s : List UInt8} {k : KV} (h : insBad s k = false) : isText s = true ∧ 0 < (runesL s).length ∧ 0 ≤ k.2.2 ∧ k.2.2 + (runesL s).length ≤ 2147483648 := by
  unfold insBad at h
  simp only [Bool.or_eq_false_iff, decide_eq_false_iff_not, Bool.not_eq_false'] at h
  obtain ⟨⟨⟨h1, h2⟩, h3⟩, h4⟩ := h
  exact ⟨h1, by omega, by omega, by omega⟩
theorem insL_facts {rs : List MR} (h : ∀ r ∈ rs, idxOk r) (k a : KV) (first : Bool) (s : List UInt8) :
    (∀ x ∈ insL rs k a first s, idxOk x) ∧ (tot (insL rs k a first s) : Int) = tot rs + insN rs k a first s ∧ (liveM (insL rs k a first s) : Int) = liveM rs + insN rs k a first s := by
  unfold insL insN
  by_cases h0 : insE rs k a first s = 0
  · rw [if_pos h0, if_pos h0]
    obtain ⟨g1, g2, g3, g4⟩ := insBad_ok (insE_good h0)
    obtain ⟨f1, f2, f3⟩ := insP_facts h a first
    refine ⟨fun x hx => ?_, ?_, ?_⟩
    · rcases mem_put hx with hx | rfl
      · exact f1 x hx
      · exact ⟨g3, g4, g2⟩
    · rw [tot_put, f2]; simp
    · rw [liveM_put, f3]; simp
  · rw [if_neg h0, if_neg h0]
    exact ⟨h, by simp, by simp⟩
theorem liveM_set {rs : List MR} {i : Nat} {x : MR} (hr : rs[i]? = some x) (hd : ¬ x.2.2 = true) : liveM (rs.set i (x.1, x.2.1, true)) + x.2.1.length = liveM rs := by
  have hi := (List.getElem?_eq_some_iff.1 hr).1
  have h1 : rs = rs.take i ++ x :: rs.drop (i + 1) := by
    have := List.take_append_drop i rs
    rw [List.drop_eq_getElem_cons hi, (List.getElem?_eq_some_iff.1 hr).2] at this
    exact this.symm
  have hl : (rs.take i).length = i := by rw [List.length_take]; omega
  have h2 : rs.set i (x.1, x.2.1, true) = rs.take i ++ (x.1, x.2.1, true) :: rs.drop (i + 1) := by
    conv => lhs; rw [h1]
    rw [List.set_append_right _ _ (by omega), hl, Nat.sub_self]
    rfl
  rw [h2, liveM_append, liveM_cons]
  conv => rhs; rw [h1]
  rw [liveM_append, liveM_cons, if_neg hd]
  simp
  omega
theorem delGo_facts (k : KV) (n : Int) : ∀ (f : Nat) (rs : List MR) (i : Nat) (lv : Int), (∀ r ∈ rs, idxOk r) →
    (∀ x ∈ (delGo k n f rs i lv).1, idxOk x) ∧ tot (delGo k n f rs i lv).1 = tot rs ∧ (delGo k n f rs i lv).2 - liveM (delGo k n f rs i lv).1 = lv - liveM rs
  | 0, rs, i, lv, h => by exact ⟨h, rfl, rfl⟩
  | f + 1, rs, i, lv, h => by
    unfold delGo
    split
    · exact ⟨h, rfl, rfl⟩
    · rename_i r hr
      split
      · split
        · have hf := cutM_facts h hr (k.2.2 - r.1.2.2)
          have := delGo_facts k n f _ (i + 1) lv hf.1
          rw [hf.2.1, liveM_cut] at this
          exact this
        · have hf := cutM_facts h hr (k.2.2 + n - r.1.2.2)
          obtain ⟨x, hx, _⟩ := hf.2.2.2
          rw [hx]
          simp only
          split
          · have := delGo_facts k n f _ (i + 1) lv hf.1
            rw [hf.2.1, liveM_cut] at this
            exact this
          · rename_i hd
            have hs := set_facts hf.1 hx
            have := delGo_facts k n f _ (i + 1) (lv - x.2.1.length) hs.1
            have hl := liveM_set hx hd
            rw [liveM_cut] at hl
            rw [hs.2.1, hf.2.1] at this
            refine ⟨this.1, this.2.1, ?_⟩
            have := this.2.2
            omega
      · exact delGo_facts k n f rs (i + 1) lv h
/-- What Delete leaves. -/
def delR (rs : List MR) (k : KV) (n : Int) : List MR := (delL rs k n (liveM rs)).1
theorem delL_facts {rs : List MR} (h : ∀ r ∈ rs, idxOk r) (k : KV) (n : Int) : (∀ x ∈ delR rs k n, idxOk x) ∧ tot (delR rs k n) = tot rs ∧ (delL rs k n (liveM rs)).2 = liveM (delR rs k n) := by
  unfold delR delL
  split
  · have := delGo_facts k n (tot rs) rs 0 (liveM rs) h
    exact ⟨this.1, this.2.1, by have := this.2.2; omega⟩
  · exact ⟨h, rfl, rfl⟩

/-- A document, as acts leave it. -/
def DocP (w : World) (d : Nat) (v : Value) (rs : List MR) : Prop := ∃ zs, Doc w d v zs (tot rs) (liveM rs) ∧ zs.map (·.2) = rs ∧ ∀ r ∈ rs, idxOk r
theorem DocP.below {w w' : World} {d : Nat} {v : Value} {rs : List MR} (h : DocP w d v rs) (hb : Below w.heap.size w w') : DocP w' d v rs := by
  obtain ⟨zs, h1, h2, h3⟩ := h
  exact ⟨zs, h1.below hb, h2, h3⟩
theorem DocP.lt {w : World} {d : Nat} {v : Value} {rs : List MR} (h : DocP w d v rs) : d < w.heap.size := by
  obtain ⟨zs, h1, h2, h3⟩ := h
  exact h1.lt
theorem DocP.other {w w' : World} {d e : Nat} {v u u' : Value} {rs qs : List MR} (h : DocP w d v rs) (he : DocP w e u qs) (ha : Apart d v e u) (hs : Step e u u' w w') : DocP w' d v rs ∧ Apart d v e u' := by
  obtain ⟨zs, h1, h2, h3⟩ := h
  obtain ⟨ys, g1, g2, g3⟩ := he
  obtain ⟨q1, q2⟩ := h1.other g1 ha hs
  exact ⟨⟨zs, q1, h2, h3⟩, q2⟩
theorem DocP.len {w : World} {d : Nat} {v : Value} {rs : List MR} (h : DocP w d v rs) : ∃ zs : List ZR, zs.map (·.2) = rs ∧ zs.length ≤ tot rs := by
  obtain ⟨zs, h1, h2, h3⟩ := h
  refine ⟨zs, h2, ?_⟩
  have := tot_len h3
  rw [← h2, List.length_map] at this
  rwa [h2] at this
set_option maxRecDepth 100000 in
theorem new_P (w : World) : Calls Try.prog 10 #[] w fun e w' => e = .returned (.pointer (some ⟨w.heap.size, 0, none⟩)) ∧ DocP w' w.heap.size (.slice none 0 0) [] ∧ Below w.heap.size w w' := by
  go_enter Try.func10, Try.ntmps10
  go_wp2
  go_ret
  exact ⟨rfl, ⟨[], ⟨(MapKept.heap_alloc w _).1, .nil, by simp⟩, rfl, by simp⟩, (Below.refl _ w).alloc (Nat.le_refl _) _⟩
theorem insert_P (d : Nat) (v : Value) (rs : List MR) (k a : KV) (first : Bool) (s : ByteArray) (w : World) (hk : k.2.1.length = 32) (ha : a.2.1.length = 32) (hs : s.size ≤ 1000) (ht : tot rs ≤ 5000) (h : DocP w d v rs) :
    Calls Try.prog 23 #[.pointer (some ⟨d, 0, none⟩), .agg (keyB k.1 k.2.1 k.2.2), .agg (keyB a.1 a.2.1 a.2.2), .bool first, .string s] w fun e w' =>
      e = .returned (.int .i64 (insE rs k a first s.data.toList)) ∧ ∃ v', DocP w' d v' (insL rs k a first s.data.toList) ∧ Step d v v' w w' := by
  obtain ⟨zs, h1, rfl, h3⟩ := h
  have hl : zs.length ≤ 5000 := by have := tot_len h3; rw [List.length_map] at this; omega
  have hlm := liveM_tot (zs.map (·.2))
  refine (insert_any d v zs _ _ k a first s w hk ha hs (by omega) (by omega) (by omega) h1).mono ?_
  rintro e w1 ⟨rfl, v1, zs1, g1, g2, g3⟩
  obtain ⟨f1, f2, f3⟩ := insL_facts h3 k a first s.data.toList
  rw [← f2, ← f3, ← g2] at g1
  rw [← g2] at f1
  exact ⟨rfl, v1, ⟨zs1, g2 ▸ g1, g2, g2 ▸ f1⟩, g3⟩
theorem delete_P (d : Nat) (v : Value) (rs : List MR) (k : KV) (n : Int) (w : World) (hk : k.2.1.length = 32) (ht : tot rs ≤ 5000) (h : DocP w d v rs) :
    Calls Try.prog 24 #[.pointer (some ⟨d, 0, none⟩), .agg (keyB k.1 k.2.1 k.2.2), .int .i64 n] w fun e w' =>
      e = .returned (.int .i64 (delE rs k n)) ∧ ∃ v', DocP w' d v' (delR rs k n) ∧ Step d v v' w w' := by
  obtain ⟨zs, h1, rfl, h3⟩ := h
  have hlm := liveM_tot (zs.map (·.2))
  refine (delete_any d v zs _ _ k n w hk h3 (by omega) (by omega) h1).mono ?_
  rintro e w1 ⟨rfl, v1, zs1, g1, g2, g3⟩
  obtain ⟨f1, f2, f3⟩ := delL_facts h3 k n
  have g2 : zs1.map (·.2) = delR (zs.map (·.2)) k n := g2
  rw [f3, ← f2, ← g2] at g1
  exact ⟨rfl, v1, ⟨zs1, g2 ▸ g1, g2, f1⟩, g3⟩
theorem text_P (d : Nat) (v : Value) (rs : List MR) (w : World) (ht : tot rs ≤ 5000) (h : DocP w d v rs) :
    Calls Try.prog 15 #[.pointer (some ⟨d, 0, none⟩)] w fun e w' => e = .returned (.string (strB (docText rs))) ∧ Below w.heap.size w w' := by
  obtain ⟨zs, h1, rfl, h3⟩ := h
  have hl : zs.length ≤ 5000 := by have := tot_len h3; rw [List.length_map] at this; omega
  exact text_doc d v zs _ _ w (Nat.le_trans ht (by decide)) (Nat.le_trans hl (by decide)) h1
theorem pieces_P (d : Nat) (v : Value) (rs : List MR) (w : World) (ht : tot rs ≤ 5000) (h : DocP w d v rs) :
    Calls Try.prog 14 #[.pointer (some ⟨d, 0, none⟩)] w fun e w' => ∃ v', e = .returned v' ∧ pieceR.row 41 w.heap.size (piecesM rs) v' w' ∧ Below w.heap.size w w' := by
  obtain ⟨zs, h1, rfl, h3⟩ := h
  have hl : zs.length ≤ 5000 := by have := tot_len h3; rw [List.length_map] at this; omega
  exact pieces_doc d v zs _ _ w (Nat.le_trans ht (by decide)) (Nat.le_trans hl (by decide)) h1
theorem copy_P (d : Nat) (v : Value) (rs : List MR) (w : World) (ht : tot rs ≤ 5000) (h : DocP w d v rs) :
    Calls Try.prog 17 #[.pointer (some ⟨d, 0, none⟩)] w fun e w' => ∃ d' v', e = .returned (.pointer (some ⟨d', 0, none⟩)) ∧ DocP w' d' v' rs ∧ Apart d v d' v' ∧ w.heap.size ≤ d' ∧ Below w.heap.size w w' := by
  obtain ⟨zs, h1, rfl, h3⟩ := h
  have hl : zs.length ≤ 5000 := by have := tot_len h3; rw [List.length_map] at this; omega
  refine (copy_doc d v zs _ _ w (by omega) h1).mono ?_
  rintro e w1 ⟨d', v', rfl, g1, g2, g3, g4⟩
  exact ⟨d', v', rfl, ⟨zs, g1, rfl, h3⟩, g2, g3, g4⟩
theorem size_P (d : Nat) (v : Value) (rs : List MR) (w : World) (h : DocP w d v rs) :
    Calls Try.prog 16 #[.pointer (some ⟨d, 0, none⟩)] w fun e w' => e = .returned (.int .i64 (tot rs)) ∧ Below w.heap.size w w' := by
  obtain ⟨zs, h1, rfl, h3⟩ := h
  exact size_any d v _ _ w h1.cells
theorem len_P (d : Nat) (v : Value) (rs : List MR) (w : World) (h : DocP w d v rs) :
    Calls Try.prog 18 #[.pointer (some ⟨d, 0, none⟩)] w fun e w' => e = .returned (.int .i64 (liveM rs)) ∧ Below w.heap.size w w' := by
  obtain ⟨zs, h1, rfl, h3⟩ := h
  exact len_any d v _ _ w h1.cells
/-- Plain: the live runs, each with how many live elements stand ahead. -/
def livesM : Nat → List MR → List (Nat × MR)
  | _, [] => []
  | n, r :: rs => if r.2.2 = true then livesM n rs else (n, r) :: livesM (n + r.2.1.length) rs
theorem livesM_zs : ∀ (zs : List ZR) (n : Nat), (livesZ n zs).map (fun p => (p.1, p.2.2)) = livesM n (zs.map (·.2))
  | [], n => rfl
  | z :: zs, n => by
    simp only [livesZ, List.map_cons, livesM]
    split
    · exact livesM_zs zs n
    · rw [List.map_cons, livesM_zs zs]
def atH (p : Nat × MR) (place : Int) : Bool := decide ((p.1 : Int) ≤ place) && decide (wrap64 (place - p.1) < p.2.2.1.length)
def atM (rs : List MR) (place : Int) : KV × Int := match (livesM 0 rs).find? (fun p => atH p place) with
  | some p => ((p.2.1.1, p.2.1.2.1, wrap64 (p.2.1.2.2 + wrap64 (place - p.1))), 0)
  | none => ((0, List.replicate 32 0, 0), 4)
theorem atM_zs (zs : List ZR) (place : Int) : atM (zs.map (·.2)) place = atZ zs place := by
  unfold atM atZ
  rw [← livesM_zs, List.find?_map]
  have : (fun p => atH p place) ∘ (fun p : Nat × ZR => (p.1, p.2.2)) = fun p => atB p place := rfl
  rw [this]
  cases (livesZ 0 zs).find? (fun p => atB p place) with
  | none => rfl
  | some p => rfl
theorem at_P (d : Nat) (v : Value) (rs : List MR) (place : Int) (w : World) (ht : tot rs ≤ 5000) (h : DocP w d v rs) :
    Calls Try.prog 21 #[.pointer (some ⟨d, 0, none⟩), .int .i64 place] w fun e w' => e = .returned (.tuple #[.agg (keyB (atM rs place).1.1 (atM rs place).1.2.1 (atM rs place).1.2.2), .int .i64 (atM rs place).2]) ∧ Below w.heap.size w w' := by
  obtain ⟨zs, h1, rfl, h3⟩ := h
  have hl : zs.length ≤ 5000 := by have := tot_len h3; rw [List.length_map] at this; omega
  rw [atM_zs]
  exact at_doc d v zs _ _ place w (Nat.le_trans ht (by decide)) (Nat.le_trans hl (by decide)) h1
/-- Plain: what Find says. -/
def FindM (rs : List MR) (k : KV) : Int × Bool × Int := match findM rs k with
  | some i => if (rs.getD i ((0, [], 0), [], false)).2.2 = true then (liveM (rs.take i), false, 0) else (liveM (rs.take i) + offM (rs.getD i ((0, [], 0), [], false)) k, true, 0)
  | none => (0, false, 12)
theorem placeW_is : ∀ zs : List ZR, tot (zs.map (·.2)) ≤ 100000 → (∀ z ∈ zs, (z.1.2.1.2.1 = z.2.2.1.length ∧ z.1.2.2 = z.2.2.2)) → placeW (zs.map (·.1)) = liveM (zs.map (·.2)) := by
  refine snoc_ind (fun _ _ => rfl) fun zs z ih ht hz => ?_
  have h1 := hz z (by simp)
  have e : tot ((zs ++ [z]).map (·.2)) = tot (zs.map (·.2)) + z.2.2.1.length := by rw [List.map_append, tot_append]; simp [tot]
  have h2 := ih (by omega) (fun x hx => hz x (by simp [hx]))
  have h3 := liveM_tot (zs.map (·.2))
  rw [List.map_append, List.map_singleton, placeW_snoc, h2, List.map_append, List.map_singleton, liveM_append, h1.1, h1.2]
  have h4 : liveM [z.2] = if z.2.2.2 = true then 0 else z.2.2.1.length := by simp [liveM]
  rw [h4]
  split
  · simp
  · rw [wrap64_id (by omega) (by omega)]; simp
theorem find_P (d : Nat) (v : Value) (rs : List MR) (k : KV) (w : World) (hk : k.2.1.length = 32) (ht : tot rs ≤ 5000) (h : DocP w d v rs) :
    Calls Try.prog 22 #[.pointer (some ⟨d, 0, none⟩), .agg (keyB k.1 k.2.1 k.2.2)] w fun e w' => e = .returned (.tuple #[.int .i64 (FindM rs k).1, .bool (FindM rs k).2.1, .int .i64 (FindM rs k).2.2]) ∧ Below w.heap.size w w' := by
  obtain ⟨zs, h1, rfl, h3⟩ := h
  have hl : zs.length ≤ 5000 := by have := tot_len h3; rw [List.length_map] at this; omega
  obtain ⟨a, cap, hv, hin⟩ := h1.slice
  have hc := h1.cells
  rw [hv] at hc
  have hF : FindV (zs.map (·.1)) k.1 k.2.1 k.2.2 = .tuple #[.int .i64 (FindM (zs.map (·.2)) k).1, .bool (FindM (zs.map (·.2)) k).2.1, .int .i64 (FindM (zs.map (·.2)) k).2.2] := by
    unfold FindV FindM
    rw [findI_zs h1.tells]
    cases hf : findM (zs.map (·.2)) k with
    | none => rfl
    | some i =>
      have hi : i < zs.length := by have := findM_lt hf; simpa using this
      have ht' := h1.tells zs[i] (List.getElem_mem hi)
      have hpl : placeW ((zs.map (·.1)).take i) = liveM ((zs.map (·.2)).take i) := by
        rw [← List.map_take, ← List.map_take]
        refine placeW_is _ ?_ (fun z hz => by have := h1.tells z (List.mem_of_mem_take hz); exact ⟨this.len, this.dead⟩)
        rw [List.map_take]
        have h9 := tot_take (rs := zs.map (·.2)) i
        exact Nat.le_trans (Nat.le_trans (by rw [h9]; exact Nat.le_add_right _ _) ht) (by decide)
      have hoff := heldM_off (findM_held hf)
      have hlm := liveM_tot ((zs.map (·.2)).take i)
      have hlt := tot_take (rs := zs.map (·.2)) i
      have hgl : (zs.map (·.2)).getD i ((0, [], 0), [], false) = zs[i].2 := by simp [List.getD_eq_getElem?_getD, List.getElem?_map, List.getElem?_eq_getElem hi]
      have hgl1 : (zs.map (·.1)).getD i ((0, [], 0), (none, 0, 0), false) = zs[i].1 := by simp [List.getD_eq_getElem?_getD, List.getElem?_map, List.getElem?_eq_getElem hi]
      have htd : tot ((zs.map (·.2)).drop i) = zs[i].2.2.1.length + tot ((zs.map (·.2)).drop (i + 1)) := tot_drop (by simp [hi])
      rw [hgl] at hoff
      simp only [hgl, hgl1, hpl]
      rw [ht'.dead]
      have ho : holdsN zs[i].1 k.2.2 = offM zs[i].2 k := by unfold offM holdsN; rw [ht'.key]; rfl
      rw [ho]
      split
      · rfl
      · rw [wrap64_id (by omega) (by omega)]
  rw [← hF]
  exact Find_any d a cap _ _ (zs.map (·.1)) k.1 k.2.1 k.2.2 w hk (by rw [List.length_map]; omega) hc hin
end Go.Proofs.Ytcgioboiebanpaa
