/- Delete, plain, and its first loop. -/
import Derived.Test.YtcgioboiebanpaaNu
namespace Go.Proofs.Ytcgioboiebanpaa
open Go.RowKit Go.Maps
set_option linter.unusedVariables false

/-- How many elements there are. -/
def tot (rs : List MR) : Nat := (rs.map fun r => r.2.1.length).sum
theorem tot_cons (r : MR) (rs : List MR) : tot (r :: rs) = r.2.1.length + tot rs := by simp [tot]
theorem tot_append (a b : List MR) : tot (a ++ b) = tot a + tot b := by simp [tot]
/-- Indexes as Insert lets them in. -/
def idxOk (r : MR) : Prop := 0 ≤ r.1.2.2 ∧ r.1.2.2 + r.2.1.length ≤ 2147483648 ∧ 0 < r.2.1.length
def foundR (r : MR) (k : KV) (n : Int) : Int := if n ≤ 2147483647 ∧ 0 ≤ k.2.2 ∧ meetsM r k n = true then min (k.2.2 + n) (r.1.2.2 + r.2.1.length) - max k.2.2 r.1.2.2 else 0
def foundM (rs : List MR) (k : KV) (n : Int) : Int := (rs.map fun r => foundR r k n).sum
def delGo (k : KV) (n : Int) : Nat → List MR → Nat → Int → List MR × Int
  | 0, rs, _, lv => (rs, lv)
  | f + 1, rs, i, lv => match rs[i]? with
    | none => (rs, lv)
    | some r => if meetsM r k n = true then
        if r.1.2.2 < k.2.2 then delGo k n f (cutM rs i (k.2.2 - r.1.2.2)) (i + 1) lv
        else match (cutM rs i (k.2.2 + n - r.1.2.2))[i]? with
          | none => (rs, lv)
          | some x => if x.2.2 = true then delGo k n f (cutM rs i (k.2.2 + n - r.1.2.2)) (i + 1) lv
            else delGo k n f ((cutM rs i (k.2.2 + n - r.1.2.2)).set i (x.1, x.2.1, true)) (i + 1) (lv - x.2.1.length)
      else delGo k n f rs (i + 1) lv
def delE (rs : List MR) (k : KV) (n : Int) : Int := if n < 1 then 1 else if foundM rs k n = n then 0 else 12
def delL (rs : List MR) (k : KV) (n : Int) (live : Int) : List MR × Int := if delE rs k n = 0 then delGo k n (tot rs) rs 0 live else (rs, live)

theorem wrap64_id {x : Int} (h0 : -9223372036854775808 ≤ x) (h1 : x ≤ 9223372036854775807) : wrap64 x = x := IntWalk.wrap64_in x ⟨h0, h1⟩
theorem meetsM_iff {r : MR} (h : idxOk r) {k : KV} {n : Int} (hn : 1 ≤ n ∧ n ≤ 2147483647) (hk : 0 ≤ k.2.2) : meetsM r k n = true → k.2.2 < r.1.2.2 + r.2.1.length ∧ r.1.2.2 < k.2.2 + n := by
  intro hm
  unfold meetsM meetsB asV at hm
  simp only [Bool.and_eq_true, decide_eq_true_eq] at hm
  obtain ⟨⟨_, h1⟩, h2⟩ := hm
  obtain ⟨i0, i1, _⟩ := h
  rw [wrap64_id (by omega) (by omega)] at h2
  rw [wrap64_id (by omega) (by omega)] at h1
  exact ⟨h2, h1⟩
theorem foundR_range {r : MR} (h : idxOk r) (k : KV) (n : Int) (hn : 1 ≤ n) : 0 ≤ foundR r k n ∧ foundR r k n ≤ r.2.1.length := by
  unfold foundR
  split
  · rename_i hh
    have := meetsM_iff h ⟨hn, hh.1⟩ hh.2.1 hh.2.2
    obtain ⟨i0, i1, _⟩ := h
    omega
  · omega
theorem foundM_snoc (rs : List MR) (r : MR) (k : KV) (n : Int) : foundM (rs ++ [r]) k n = foundM rs k n + foundR r k n := by simp [foundM]
theorem foundM_range {rs : List MR} (h : ∀ r ∈ rs, idxOk r) (k : KV) (n : Int) (hn : 1 ≤ n) : 0 ≤ foundM rs k n ∧ foundM rs k n ≤ tot rs := by
  induction rs with
  | nil => simp [foundM, tot]
  | cons r rs ih =>
    have h1 := foundR_range (h r (by simp)) k n hn
    have h2 := ih (fun x hx => h x (by simp [hx]))
    have e : foundM (r :: rs) k n = foundR r k n + foundM rs k n := by simp [foundM]
    rw [e, tot_cons]
    omega
/-- Where something is found, all is within bounds. -/
theorem foundM_pos {rs : List MR} {k : KV} {n : Int} (h : 0 < foundM rs k n) : n ≤ 2147483647 ∧ 0 ≤ k.2.2 := by
  induction rs with
  | nil => simp [foundM] at h
  | cons r rs ih =>
    have e : foundM (r :: rs) k n = foundR r k n + foundM rs k n := by simp [foundM]
    by_cases h1 : n ≤ 2147483647 ∧ 0 ≤ k.2.2
    · exact h1
    · rw [e] at h
      have h2 : foundR r k n = 0 := by unfold foundR; rw [if_neg (fun hh => h1 ⟨hh.1, hh.2.1⟩)]
      rw [h2, Int.zero_add] at h
      exact ih h
theorem tot_take {rs : List MR} (i : Nat) : tot rs = tot (rs.take i) + tot (rs.drop i) := by rw [← tot_append, List.take_append_drop]
theorem tot_drop {rs : List MR} {i : Nat} {r : MR} (h : rs[i]? = some r) : tot (rs.drop i) = r.2.1.length + tot (rs.drop (i + 1)) := by
  obtain ⟨hi, rfl⟩ := List.getElem?_eq_some_iff.1 h
  rw [List.drop_eq_getElem_cons hi, tot_cons]
theorem tot_len {rs : List MR} (h : ∀ r ∈ rs, idxOk r) : rs.length ≤ tot rs := by
  induction rs with
  | nil => simp
  | cons r rs ih =>
    have h1 := (h r (by simp)).2.2
    have h2 := ih (fun x hx => h x (by simp [hx]))
    rw [tot_cons, List.length_cons]; omega
theorem cutM_facts {rs : List MR} (h : ∀ r ∈ rs, idxOk r) {i : Nat} {r : MR} (hr : rs[i]? = some r) (m : Int) :
    (∀ x ∈ cutM rs i m, idxOk x) ∧ tot (cutM rs i m) = tot rs ∧ tot ((cutM rs i m).drop i) = tot (rs.drop i) ∧ ∃ x, (cutM rs i m)[i]? = some x ∧ x = (if 0 < m ∧ m < r.2.1.length then fstM r m else r) ∧ 0 < x.2.1.length := by
  have hi := (List.getElem?_eq_some_iff.1 hr).1
  have hok := h r (List.mem_of_getElem? hr)
  unfold cutM
  rw [hr]
  simp only
  split
  · rename_i hm
    obtain ⟨m, rfl⟩ : ∃ j : Nat, m = (j : Int) := ⟨m.toNat, by omega⟩
    have hl : (rs.take i).length = i := by rw [List.length_take]; omega
    have ht := tot_drop hr
    have hd : (rs.take i ++ fstM r m :: sndM r m :: rs.drop (i + 1)).drop i = fstM r m :: sndM r m :: rs.drop (i + 1) := by
      rw [List.drop_append, hl, Nat.sub_self, List.drop_zero, List.drop_of_length_le (by omega)]; rfl
    have hmt : m ≤ r.2.1.length := by omega
    have ht2 : tot (fstM r m :: sndM r m :: rs.drop (i + 1)) = tot (rs.drop i) := by
      rw [tot_cons, tot_cons, ht]
      simp only [fstM, sndM, Int.toNat_natCast, List.length_take, List.length_drop]
      omega
    obtain ⟨i0, i1, i2⟩ := hok
    refine ⟨fun x hx => ?_, ?_, by rw [hd, ht2], fstM r m, ?_, rfl, by simp [fstM]; omega⟩
    · rcases List.mem_append.1 hx with hx | hx
      · exact h x (List.mem_of_mem_take hx)
      · rcases List.mem_cons.1 hx with rfl | hx
        · refine ⟨i0, ?_, ?_⟩ <;> simp only [fstM, Int.toNat_natCast, List.length_take] <;> omega
        · rcases List.mem_cons.1 hx with rfl | hx
          · unfold idxOk
            simp only [sndM, Int.toNat_natCast, List.length_drop]
            rw [wrap64_id (by omega) (by omega)]
            omega
          · exact h x (List.mem_of_mem_drop hx)
    · rw [tot_append, ht2, ← tot_append, List.take_append_drop]
    · rw [List.getElem?_append_right (by omega), hl, Nat.sub_self]; rfl
  · exact ⟨h, rfl, rfl, r, hr, rfl, hok.2.2⟩
theorem set_facts {rs : List MR} (h : ∀ r ∈ rs, idxOk r) {i : Nat} {x : MR} (hr : rs[i]? = some x) :
    (∀ y ∈ rs.set i (x.1, x.2.1, true), idxOk y) ∧ tot (rs.set i (x.1, x.2.1, true)) = tot rs ∧ tot ((rs.set i (x.1, x.2.1, true)).drop (i + 1)) = tot (rs.drop (i + 1)) := by
  have hi := (List.getElem?_eq_some_iff.1 hr).1
  have hd : (rs.set i (x.1, x.2.1, true)).drop (i + 1) = rs.drop (i + 1) := by rw [List.drop_set, if_pos (by omega)]
  refine ⟨fun y hy => ?_, ?_, by rw [hd]⟩
  · rcases List.mem_or_eq_of_mem_set hy with hy | rfl
    · exact h y hy
    · exact h x (List.mem_of_getElem? hr)
  · rw [tot_take (rs := rs.set i (x.1, x.2.1, true)) i, tot_take (rs := rs) i]
    have h1 : (rs.set i (x.1, x.2.1, true))[i]? = some (x.1, x.2.1, true) := by simp [hi]
    rw [tot_drop h1, tot_drop hr, hd, List.take_set_of_le (Nat.le_refl _)]
end Go.Proofs.Ytcgioboiebanpaa

namespace Go.Proofs.Ytcgioboiebanpaa
open Go.RowKit
set_option linter.unusedVariables false

/-- One cell of a record is written. -/
theorem row_field {α : Type} {R : Rec α} {e : TypeId} {base g len cap k f : Nat} {O : List α} {x x' : α} {u : Value} {w : World} (hx : O[k]? = some x) (hok : R.ok x') (hf : f < R.sz) (he : R.enc x' = (R.enc x).set f u)
    (h : R.row e base O (.slice (some ⟨g, 0, none⟩) len cap) w) :
    R.row e base (O.set k x') (.slice (some ⟨g, 0, none⟩) len cap) (w.setCell ⟨g, k * R.sz + f, none⟩ u) ∧ Below base w (w.setCell ⟨g, k * R.sz + f, none⟩ u) := by
  have hk : k < O.length := (List.getElem?_eq_some_iff.1 hx).1
  have hp := h.put hok hk
  obtain ⟨h32, hl, ⟨hh, _⟩ | ⟨g', cap', cur, hh, hg, hb, hc, hm, hs, ht⟩⟩ := h
  · cases hh
  · cases hh
    have hii : k * R.sz + R.sz ≤ O.length * R.sz := by rw [← Nat.succ_mul]; exact Nat.mul_le_mul_right _ hk
    have hcc : O.length * R.sz ≤ cap * R.sz := Nat.mul_le_mul_right _ hc
    have hlx := R.len x (h32 x (List.mem_of_getElem? hx))
    have hlx' := R.len x' hok
    have hat := R.cells_at O k x h32 hx
    rw [← ht, List.drop_take, List.take_take] at hat
    have hcut : cur.toList = cur.toList.take (k * R.sz) ++ (R.enc x ++ cur.toList.drop (k * R.sz + R.sz)) := by
      rw [← hat, Nat.min_eq_left (by omega)]
      have h1 := List.take_append_drop R.sz (cur.toList.drop (k * R.sz))
      rw [List.drop_drop] at h1
      rw [h1, List.take_append_drop]
    have hq : putC w ⟨g, k * R.sz, none⟩ (R.enc x').toArray = w.setCell ⟨g, k * R.sz + f, none⟩ u := by
      rw [setCell_eq_setRow w g (k * R.sz + f) cur e (0, 0) _ hb]
      unfold putC
      simp only [hb]
      congr 1
      apply Array.ext'
      simp only [List.size_toArray, Array.toList_setIfInBounds, hlx']
      have hset : cur.toList.set (k * R.sz + f) u = cur.toList.take (k * R.sz) ++ (R.enc x' ++ cur.toList.drop (k * R.sz + R.sz)) := by
        conv => lhs; rw [hcut]
        have htl : (cur.toList.take (k * R.sz)).length = k * R.sz := by simp; omega
        rw [List.set_append_right _ _ (by omega), htl, show k * R.sz + f - k * R.sz = f by omega, List.set_append_left _ _ (by omega), he]
      rw [hset]
      simp
    rw [hq] at hp
    exact hp
theorem row_free {α : Type} {R : Rec α} {e : TypeId} {base g len cap : Nat} {O : List α} {w : World} (h : R.row e base O (.slice (some ⟨g, 0, none⟩) len cap) w) (j : Nat) : w.frozen? ⟨g, j, none⟩ = false := by
  obtain ⟨_, _, ⟨hh, _⟩ | ⟨g', cap', cur, hh, _, hb, _⟩⟩ := h
  · cases hh
  · cases hh; exact Lib.frozen_of_heap hb j

/-- Blocks from K on are kept. -/
def AbK (K : Nat) (w w' : World) : Prop := w.heap.size ≤ w'.heap.size ∧ ∀ g, K ≤ g → g < w.heap.size → w'.heap[g]? = w.heap[g]?
theorem AbK.of_below {K : Nat} {w w' : World} (h : Below w.heap.size w w') : AbK K w w' := ⟨h.size, fun g _ hl => h.block g hl⟩
theorem AbK.set {K : Nat} (w : World) (a : Addr) (v : Value) (h : a.block < K) : AbK K w (w.setCell a v) := ⟨by simp, fun g hg _ => Below.heap_setCell w a v g (by omega)⟩
theorem eqv_ab (K : Nat) (c : Value) : ∀ v w w', eqv c v w → AbK K w w' → eqv c v w' := fun _ _ _ h _ => h
/-- What a store leaves, behind whatever came ahead of it. -/
def StoreF (w0 : World) (a : Addr) (u : Value) : Value → World → Prop := fun _ w => ∃ w1, Below w0.heap.size w0 w1 ∧ Below w1.heap.size (w1.setCell a u) w
theorem storeF_st {w0 : World} {a : Addr} {u : Value} : ∀ v w w', StoreF w0 a u v w → Below w.heap.size w w' → StoreF w0 a u v w' := by
  rintro v w w' ⟨w1, h1, h2⟩ h3
  exact ⟨w1, h1, h2.trans (h3.mono (by have := h2.size; simp at this; exact this))⟩
theorem stables_but {R : World → World → Prop} {Sl : List (Value → World → Prop)} {n : Nat} (h : Stables R (Sl.set n anyv)) : ∀ i v w w', i ≠ n → Sl.getD i anyv v w → R w w' → Sl.getD i anyv v w' := by
  intro i v w w' hi h1 h2
  have e : (Sl.set n anyv).getD i anyv = Sl.getD i anyv := by
    rw [List.getD_eq_getElem?_getD, List.getD_eq_getElem?_getD, List.getElem?_set_ne (Ne.symm hi)]
  have h3 := Stables.get h i v w w'
  rw [e] at h3
  exact h3 h1 h2
/-- What an operation of such a region does to the world. -/
def RS (K n j : Nat) (w w' : World) : Prop := if j = n then AbK K w w' else Below w.heap.size w w'
theorem RS_b {K n j : Nat} {w w' : World} (h : j ≠ n) (hb : Below w.heap.size w w') : RS K n j w w' := by unfold RS; rw [if_neg h]; exact hb
theorem RS_set {K n : Nat} (w : World) (a : Addr) (v : Value) (h : a.block < K) : RS K n n w (w.setCell a v) := by unfold RS; rw [if_pos rfl]; exact AbK.set w a v h
/-- What an operation of such a region finds. -/
def PS (w0 : World) (n : Nat) (ds : List Nat) (j : Nat) (w : World) : Prop := (j = n ∨ j ∈ ds) → Below w0.heap.size w0 w
theorem wp_region_storeL {P : Program} {l : List Oper} {Q : Exit → Act → World → Prop} {a0 : Act} {w0 : World} {id : Nat} (D : List (List Nat)) (T : List (Option Tmp)) (L : List Nat) (n : Nat) (Sl : List (Value → World → Prop))
    (hm : P.follows .mixedOrders = true) (hok : specsOk l a0.tmps.size D T L = true)
    (hst : Stables (AbK w0.heap.size) (Sl.set n anyv)) (hfin : ∀ v w w', Sl.getD n anyv v w → Below w.heap.size w w' → Sl.getD n anyv v w')
    (hop : Obls P l T a0 (fun _ => True) (PS w0 n (D.getD n [])) (RS w0.heap.size n) (fun i => Sl.getD i anyv) 0 D l)
    (hend : ∀ vs w, DepH (fun i => Sl.getD i anyv) vs w L → Q .normal (putL T vs L a0) w) :
    (Code.region id l.toArray true).wp P Q a0 w0 := by
  refine wp_region_specs2 D T L (fun _ => True) _ _ _ hm hok trivial (fun i _ => (Below.refl w0.heap.size w0).drew) (fun _ _ _ _ _ => trivial) ?_ ?_ hop (fun vs w _ h => hend vs w h)
  · intro i j w w' hij hd hp hr hi
    unfold RS at hr
    by_cases hj : j = n
    · subst hj
      rcases hi with hi | hi
      · exact absurd hi hij
      · exact absurd hi hd
    · rw [if_neg hj] at hr
      have h1 := hp hi
      exact h1.trans (hr.mono h1.size)
  · intro i j v w w' hij hd h hr
    unfold RS at hr
    by_cases hi : i = n
    · subst hi
      rw [if_neg (fun e => hij e.symm)] at hr
      exact hfin v w w' h hr
    · refine stables_but hst i v w w' hi h ?_
      by_cases hj : j = n
      · rw [if_pos hj] at hr; exact hr
      · rw [if_neg hj] at hr; exact AbK.of_below hr
end Go.Proofs.Ytcgioboiebanpaa
