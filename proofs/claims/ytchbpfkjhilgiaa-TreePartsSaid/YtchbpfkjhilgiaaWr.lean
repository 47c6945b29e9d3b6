/- Writes to one cell of a record in a row; a region that draws its order and ends in a store, its other operations only adding memory. For any program. -/
import Derived.Test.YtchbpfkjhilgiaaK
import Derived.Test.YtchbpfkjhilgiaaRec
namespace Go.Proofs.Ytchbpfkjhilgiaa
open Go.RowKit
set_option linter.unusedVariables false

/-- One cell of a record is written. -/
theorem row_field {α : Type} {R : Rec α} {e : TypeId} {base g len cap k f : Nat} {O : List α} {x x' : α} {u : Value} {w : World} (hx : O[k]? = some x) (hok : R.ok x') (hf : f < R.sz) (he : R.enc x' = (R.enc x).set f u)
    (h : R.row e base O (.slice (some ⟨g, 0, none⟩) len cap) w) :
    R.row e base (O.set k x') (.slice (some ⟨g, 0, none⟩) len cap) (w.setCell ⟨g, k * R.sz + f, none⟩ u) ∧ Below base w (w.setCell ⟨g, k * R.sz + f, none⟩ u) := by
  have hk : k < O.length := (List.getElem?_eq_some_iff.1 hx).1
  have hp := h.put hok hk
  obtain ⟨h32, hl, ⟨hh, _⟩ | ⟨g', cap', cur, hh, hg, hb, hc, hm, hs, ht⟩⟩ := h
  · cases hh
  · cases hh
    have hii : k * R.sz + R.sz ≤ O.length * R.sz := by rw [← Nat.succ_mul]; exact Nat.mul_le_mul_right _ hk
    have hcc : O.length * R.sz ≤ cap * R.sz := Nat.mul_le_mul_right _ hc
    have hlx := R.len x (h32 x (List.mem_of_getElem? hx))
    have hlx' := R.len x' hok
    have hat := R.cells_at O k x h32 hx
    rw [← ht, List.drop_take, List.take_take] at hat
    have hcut : cur.toList = cur.toList.take (k * R.sz) ++ (R.enc x ++ cur.toList.drop (k * R.sz + R.sz)) := by
      rw [← hat, Nat.min_eq_left (by omega)]
      have h1 := List.take_append_drop R.sz (cur.toList.drop (k * R.sz))
      rw [List.drop_drop] at h1
      rw [h1, List.take_append_drop]
    have hq : putC w ⟨g, k * R.sz, none⟩ (R.enc x').toArray = w.setCell ⟨g, k * R.sz + f, none⟩ u := by
      rw [setCell_eq_setRow w g (k * R.sz + f) cur e (0, 0) _ hb]
      unfold putC
      simp only [hb]
      congr 1
      apply Array.ext'
      simp only [List.size_toArray, Array.toList_setIfInBounds, hlx']
      have hset : cur.toList.set (k * R.sz + f) u = cur.toList.take (k * R.sz) ++ (R.enc x' ++ cur.toList.drop (k * R.sz + R.sz)) := by
        conv => lhs; rw [hcut]
        have htl : (cur.toList.take (k * R.sz)).length = k * R.sz := by simp; omega
        rw [List.set_append_right _ _ (by omega), htl, show k * R.sz + f - k * R.sz = f by omega, List.set_append_left _ _ (by omega), he]
      rw [hset]
      simp
    rw [hq] at hp
    exact hp
theorem row_free {α : Type} {R : Rec α} {e : TypeId} {base g len cap : Nat} {O : List α} {w : World} (h : R.row e base O (.slice (some ⟨g, 0, none⟩) len cap) w) (j : Nat) : w.frozen? ⟨g, j, none⟩ = false := by
  obtain ⟨_, _, ⟨hh, _⟩ | ⟨g', cap', cur, hh, _, hb, _⟩⟩ := h
  · cases hh
  · cases hh; exact Lib.frozen_of_heap hb j

/-- Blocks from K on are kept. -/
def AbK (K : Nat) (w w' : World) : Prop := w.heap.size ≤ w'.heap.size ∧ ∀ g, K ≤ g → g < w.heap.size → w'.heap[g]? = w.heap[g]?
theorem AbK.of_below {K : Nat} {w w' : World} (h : Below w.heap.size w w') : AbK K w w' := ⟨h.size, fun g _ hl => h.block g hl⟩
theorem AbK.set {K : Nat} (w : World) (a : Addr) (v : Value) (h : a.block < K) : AbK K w (w.setCell a v) := ⟨by simp, fun g hg _ => Below.heap_setCell w a v g (by omega)⟩
theorem eqv_ab (K : Nat) (c : Value) : ∀ v w w', eqv c v w → AbK K w w' → eqv c v w' := fun _ _ _ h _ => h
/-- What a store leaves, behind whatever came ahead of it. -/
def StoreF (w0 : World) (a : Addr) (u : Value) : Value → World → Prop := fun _ w => ∃ w1, Below w0.heap.size w0 w1 ∧ Below w1.heap.size (w1.setCell a u) w
theorem storeF_st {w0 : World} {a : Addr} {u : Value} : ∀ v w w', StoreF w0 a u v w → Below w.heap.size w w' → StoreF w0 a u v w' := by
  rintro v w w' ⟨w1, h1, h2⟩ h3
  exact ⟨w1, h1, h2.trans (h3.mono (by have := h2.size; simp at this; exact this))⟩
theorem stables_but {R : World → World → Prop} {Sl : List (Value → World → Prop)} {n : Nat} (h : Stables R (Sl.set n anyv)) : ∀ i v w w', i ≠ n → Sl.getD i anyv v w → R w w' → Sl.getD i anyv v w' := by
  intro i v w w' hi h1 h2
  have e : (Sl.set n anyv).getD i anyv = Sl.getD i anyv := by
    rw [List.getD_eq_getElem?_getD, List.getD_eq_getElem?_getD, List.getElem?_set_ne (Ne.symm hi)]
  have h3 := Stables.get h i v w w'
  rw [e] at h3
  exact h3 h1 h2
/-- What an operation of such a region does to the world. -/
def RS (K n j : Nat) (w w' : World) : Prop := if j = n then AbK K w w' else Below w.heap.size w w'
theorem RS_b {K n j : Nat} {w w' : World} (h : j ≠ n) (hb : Below w.heap.size w w') : RS K n j w w' := by unfold RS; rw [if_neg h]; exact hb
theorem RS_set {K n : Nat} (w : World) (a : Addr) (v : Value) (h : a.block < K) : RS K n n w (w.setCell a v) := by unfold RS; rw [if_pos rfl]; exact AbK.set w a v h
/-- What an operation of such a region finds. -/
def PS (w0 : World) (n : Nat) (ds : List Nat) (j : Nat) (w : World) : Prop := (j = n ∨ j ∈ ds) → Below w0.heap.size w0 w
theorem wp_region_storeL {P : Program} {l : List Oper} {Q : Exit → Act → World → Prop} {a0 : Act} {w0 : World} {id : Nat} (D : List (List Nat)) (T : List (Option Tmp)) (L : List Nat) (n : Nat) (Sl : List (Value → World → Prop))
    (hm : P.follows .mixedOrders = true) (hok : specsOk l a0.tmps.size D T L = true)
    (hst : Stables (AbK w0.heap.size) (Sl.set n anyv)) (hfin : ∀ v w w', Sl.getD n anyv v w → Below w.heap.size w w' → Sl.getD n anyv v w')
    (hop : Obls P l T a0 (fun _ => True) (PS w0 n (D.getD n [])) (RS w0.heap.size n) (fun i => Sl.getD i anyv) 0 D l)
    (hend : ∀ vs w, DepH (fun i => Sl.getD i anyv) vs w L → Q .normal (putL T vs L a0) w) :
    (Code.region id l.toArray true).wp P Q a0 w0 := by
  refine wp_region_specs2 D T L (fun _ => True) _ _ _ hm hok trivial (fun i _ => (Below.refl w0.heap.size w0).drew) (fun _ _ _ _ _ => trivial) ?_ ?_ hop (fun vs w _ h => hend vs w h)
  · intro i j w w' hij hd hp hr hi
    unfold RS at hr
    by_cases hj : j = n
    · subst hj
      rcases hi with hi | hi
      · exact absurd hi hij
      · exact absurd hi hd
    · rw [if_neg hj] at hr
      have h1 := hp hi
      exact h1.trans (hr.mono h1.size)
  · intro i j v w w' hij hd h hr
    unfold RS at hr
    by_cases hi : i = n
    · subst hi
      rw [if_neg (fun e => hij e.symm)] at hr
      exact hfin v w w' h hr
    · refine stables_but hst i v w w' hi h ?_
      by_cases hj : j = n
      · rw [if_pos hj] at hr; exact hr
      · rw [if_neg hj] at hr; exact AbK.of_below hr
end Go.Proofs.Ytchbpfkjhilgiaa
