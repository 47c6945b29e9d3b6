/- A slice literal of ids. -/
import Derived.Test.YtmmmimkikakalaaS
import Derived.Great.BuildSlice
namespace Go.Proofs.Ytmmmimkikakalaa
open Go.RowKit
set_option linter.unusedVariables false

theorem fold_set (off : Nat) : ∀ (l : List Value) (k : Nat) (cs : List Value), off + k + l.length ≤ cs.length →
    ((l.zipIdx k).foldl (fun cs (x : Value × Nat) => cs.setIfInBounds (off + x.2) x.1) cs.toArray) = (cs.take (off + k) ++ l ++ cs.drop (off + k + l.length)).toArray
  | [], k, cs, _ => by simp
  | v :: l, k, cs, h => by
    simp only [List.length_cons] at h
    rw [List.zipIdx_cons, List.foldl_cons]
    simp only [List.setIfInBounds_toArray]
    rw [fold_set off l (k + 1) (cs.set (off + k) v) (by simp; omega)]
    congr 1
    have e1 : (cs.set (off + k) v).take (off + (k + 1)) = cs.take (off + k) ++ [v] := by
      rw [show off + (k + 1) = off + k + 1 by omega, List.take_succ_eq_append_getElem (by simp; omega)]
      simp [List.take_set_of_le]
    have e2 : (cs.set (off + k) v).drop (off + (k + 1) + l.length) = cs.drop (off + k + (l.length + 1)) := by
      rw [List.drop_set, if_pos (by omega)]
      congr 1; omega
    rw [e1, e2]
    simp

def idParts : Nat → List (List UInt8) → List (Nat × Value)
  | _, [] => []
  | k, x :: xs => (k, .agg (idB x)) :: idParts (k + 1) xs

theorem fill_ids : ∀ (xs : List (List UInt8)) (k : Nat) (cs : List Value), (∀ x ∈ xs, x.length = 32) → cs.length = (k + xs.length) * 32 →
    Instr.fill (fun i => some (i * 32, 32)) cs.toArray (idParts k xs) = some (cs.take (k * 32) ++ idsC xs).toArray
  | [], k, cs, _, h => by
    simp at h
    simp [idParts, Instr.fill, idsC, List.take_of_length_le (show cs.length ≤ k * 32 by omega)]
  | x :: xs, k, cs, hx, h => by
    have hl : (Lib.byteCells x).length = 32 := by rw [Lib.byteCells_length, hx x (by simp)]
    have hz : (idB x).size = 32 := by rw [idB_size, hx x (by simp)]
    simp only [List.length_cons] at h
    rw [idParts, Instr.fill]
    have hf := fold_set (k * 32) (Lib.byteCells x) 0 cs (by rw [hl]; omega)
    simp only [Value.cells, hz, ne_eq, not_true_eq_false, decide_false, Bool.false_or, List.size_toArray]
    rw [if_neg (by simp; omega)]
    have hz2 : (idB x).zipIdx.foldl (fun cs (x : Value × Nat) => cs.setIfInBounds (k * 32 + x.2) x.1) cs.toArray = ((Lib.byteCells x).zipIdx 0).foldl (fun cs (x : Value × Nat) => cs.setIfInBounds (k * 32 + x.2) x.1) cs.toArray := by
      simp [idB]
    rw [hz2, hf, fill_ids xs (k + 1) _ (fun y hy => hx y (by simp [hy])) (by simp [hl]; omega)]
    congr 2
    rw [idsC_cons, hl]
    rw [List.take_append_of_le_length (by simp [hl]; omega), List.take_of_length_le (by simp [hl]; omega)]
    simp

theorem wpList_buildIds {ops : Array Oper} {rest : List Oper} {o : Oper} {a : Act} {w : World} {Q : Exit → Act → World → Prop} (hg : o.guard = none) (n : Nat) (parts : Array (Nat × Operand)) (ho : o.op = .buildSlice 30 n parts)
    (xs : List (List UInt8)) (hx : ∀ x ∈ xs, x.length = 32) (hn : xs.length = n) (hpos : 0 < n) (hsmall : n ≤ 1000) (hp : (parts.map fun (i, x) => (i, a.eval x)).toList = idParts 0 xs)
    (h : wpList Try.prog ops Q rest (a.put o.dst (.slice (some ⟨w.heap.size, 0, none⟩) n n)) (w.alloc (.cells (idsC xs).toArray 24))) : wpList Try.prog ops Q (o :: rest) a w := by
  have hi := info23
  cases hq : Try.prog.info? 24 with
  | none => rw [hq] at hi; cases hi
  | some i =>
    rw [hq] at hi
    simp only [Option.map_some, Option.some.injEq, Prod.mk.injEq] at hi
    obtain ⟨hz0, hz1, hz2⟩ := hi
    refine wpList_buildSlice hg 30 24 n parts ho _ i _ Try.underlying30 hq hz0 (by rw [hz1]; omega) (by rw [hz1]; omega) ?_ h
    rw [hp, hz1]
    have := fill_ids xs 0 ((Array.range (n * 32)).map (fun j => (Value.agg (Array.replicate 32 (.int .u8 0))).cells[j % (Value.agg (Array.replicate 32 (.int .u8 0))).cells.size]!)).toList hx (by simp; omega)
    rw [Array.toArray_toList] at this
    exact this.trans (by simp)

end Go.Proofs.Ytmmmimkikakalaa

namespace Go.Proofs.Ytmmmimkikakalaa
open Go.RowKit
set_option linter.unusedVariables false

theorem ids_take {w : World} {b off : Nat} {xs : List (List UInt8)} (k : Nat) (h : IdsIn w (some ⟨b, off, none⟩) xs) : IdsIn w (some ⟨b, off, none⟩) (xs.take k) := by
  refine ⟨fun x hx => h.1 x (List.mem_of_mem_take hx), ?_⟩
  rcases h.2 with rfl | ⟨b', off', he, hc⟩
  · exact .inl (by simp)
  · cases he
    refine .inr ⟨b, off, rfl, fun i hi => ?_⟩
    simp only [List.length_take] at hi
    have := hc i (by omega)
    rwa [show (xs.take k).getD i [] = xs.getD i [] by simp only [List.getD_eq_getElem?_getD]; rw [List.getElem?_take, if_pos (by omega)]]
theorem ids_drop {w : World} {b off : Nat} {xs : List (List UInt8)} (k : Nat) (h : IdsIn w (some ⟨b, off, none⟩) xs) : IdsIn w (some ⟨b, off + k * 32, none⟩) (xs.drop k) := by
  refine ⟨fun x hx => h.1 x (List.mem_of_mem_drop hx), ?_⟩
  rcases h.2 with rfl | ⟨b', off', he, hc⟩
  · exact .inl (by simp)
  · cases he
    refine .inr ⟨b, off + k * 32, rfl, fun i hi => ?_⟩
    simp only [List.length_drop] at hi
    have := hc (k + i) (by omega)
    rwa [show off + (k + i) * 32 = off + k * 32 + i * 32 by omega, show xs.getD (k + i) [] = (xs.drop k).getD i [] by simp only [List.getD_eq_getElem?_getD, List.getElem?_drop]] at this

theorem ownsRow_below {w w' : World} {base : Nat} {e : TypeId} {size : Nat} {v : Value} {n : Nat} {xs : List Value} (h : w.ownsRow base e size v n xs) (hb : Below w.heap.size w w') : w'.ownsRow base e size v n xs := by
  obtain ⟨hl, ⟨rfl, hn⟩ | ⟨g, cap, cur, rfl, hg, hh, hc⟩⟩ := h
  · exact ⟨hl, .inl ⟨rfl, hn⟩⟩
  · exact ⟨hl, .inr ⟨g, cap, cur, rfl, hg, (hb.block g (Array.getElem?_eq_some_iff.1 hh).1).trans hh, hc⟩⟩
theorem ownsRow_base {w : World} {b b' : Nat} {e : TypeId} {size : Nat} {v : Value} {n : Nat} {xs : List Value} (h : w.ownsRow b e size v n xs) (hb : b' ≤ b) : w.ownsRow b' e size v n xs := by
  obtain ⟨hl, ⟨rfl, hn⟩ | ⟨g, cap, cur, rfl, hg, hh, hc⟩⟩ := h
  · exact ⟨hl, .inl ⟨rfl, hn⟩⟩
  · exact ⟨hl, .inr ⟨g, cap, cur, rfl, by omega, hh, hc⟩⟩

/-- A row of ids. -/
def rowI (base : Nat) (xs : List (List UInt8)) : Value → World → Prop := fun v w => w.ownsRow base 24 32 v xs.length (idsC xs)
theorem rowI_st (base : Nat) (xs : List (List UInt8)) : ∀ v w w', rowI base xs v w → Below w.heap.size w w' → rowI base xs v w' := fun _ _ _ h hb => ownsRow_below h hb

def MergeAt (n : Nat) : Prop := ∀ (a : Option Addr) (cap : Nat) (xs : List (List UInt8)) (w : World), xs.length = n → xs.length ≤ cap → cap ≤ maxLen → n ≤ 1000000 → IdsIn w a xs → (a = none → xs = [] ∧ cap = 0) →
    Calls Try.prog 57 #[.slice a n cap, fcmp] w fun e w' => ∃ v, e = .returned v ∧ rowI w.heap.size (msort xs) v w' ∧ Below w.heap.size w w'

theorem wpList_append_to {w : World} {ops : Array Oper} {rest : List Oper} {o : Oper} {a : Act} {Q : Exit → Act → World → Prop} (hgd : o.guard = none) (s x : Operand)
    (ho : o.op = .call { callee := .builtin .append, args := #[s, x], argTypes := #[30, 30] })
    (base : Nat) (v : Value) (O A O' : List (List UInt8)) (hO' : O' = O ++ A) (hs : a.eval s = v) (hown : w.ownsRow base 24 32 v O.length (idsC O))
    (ad : Option Addr) (cap : Nat) (hx : a.eval x = .slice ad A.length cap) (hA : IdsIn w ad A) (hn : ad = none → A = [] ∧ cap = 0) (hlen : O.length + A.length ≤ 4000000) (hbase : base ≤ w.heap.size)
    (h : ∀ v' w', w'.ownsRow base 24 32 v' O'.length (idsC O') → Below base w w' → wpList Try.prog ops Q rest (a.put o.dst v') w') : wpList Try.prog ops Q (o :: rest) a w := by
  subst hO'
  exact wpList_append_ids hgd s x ho base v O A hs hown ad cap hx hA hn hlen hbase h

/-- What an operation of a round's append does to the world. -/
def appR (base : Nat) (vo : Value) (i : Nat) (w w' : World) : Prop := if i = 5 then w.grownBy w' vo.ownBlock ∧ Below base w w' else Below w.heap.size w w'
/-- One id in a new slice, away from a row's block. -/
def oneI (vo : Value) (x : List UInt8) : Value → World → Prop := fun v w => ∃ g, v = .slice (some ⟨g, 0, none⟩) 1 1 ∧ IdsIn w (some ⟨g, 0, none⟩) [x] ∧ some g ≠ vo.ownBlock

theorem appR_b {base : Nat} {vo : Value} {i : Nat} {w w' : World} (h : i ≠ 5) (hb : Below w.heap.size w w') : appR base vo i w w' := by unfold appR; rw [if_neg h]; exact hb
theorem appR_below {base : Nat} {vo : Value} {i : Nat} {W w w' : World} (hB : base = W.heap.size) (hg : Below W.heap.size W w) (hr : appR base vo i w w') : Below W.heap.size W w' := by
  unfold appR at hr
  split at hr
  · subst hB; exact hg.trans hr.2
  · exact hg.trans (hr.mono hg.size)
theorem oneI_st {base : Nat} {vo : Value} {i : Nat} {x : List UInt8} {v : Value} {w w' : World} (h : oneI vo x v w) (hr : appR base vo i w w') : oneI vo x v w' := by
  obtain ⟨g, rfl, hi, hn⟩ := h
  refine ⟨g, rfl, ?_, hn⟩
  unfold appR at hr
  split at hr
  · refine ⟨hi.1, ?_⟩
    rcases hi.2 with h0 | ⟨b, off, he, hc⟩
    · exact .inl h0
    · cases he
      refine .inr ⟨g, 0, rfl, fun k hk => ?_⟩
      obtain ⟨h1, h2⟩ := hc k hk
      have e := hr.1.block g h1.lt hn
      exact ⟨fits_of_block (a := ⟨g, 0 + k * 32, none⟩) e h1, (aggAt_of_block (a := ⟨g, 0 + k * 32, none⟩) e).trans h2⟩
  · exact hi.below hr
theorem one_new {w : World} {x : List UInt8} (hx : x.length = 32) : IdsIn (w.alloc (.cells (idB x) 24)) (some ⟨w.heap.size, 0, none⟩) [x] := by
  refine ⟨by simpa using hx, .inr ⟨_, 0, rfl, fun i hi => ?_⟩⟩
  have : i = 0 := by simpa using hi
  subst this
  have hh := (MapKept.heap_alloc w (.cells (idB x) 24)).1
  exact ⟨fits_cells hh (by rw [idB_size]; exact hx), aggAt_cells hh (by rw [idB_size]; exact hx)⟩
theorem own_ne {w : World} {base : Nat} {O : List (List UInt8)} {vo : Value} (h : rowI base O vo w) : some w.heap.size ≠ vo.ownBlock := by
  obtain ⟨_, ⟨rfl, _⟩ | ⟨g, cap, cur, rfl, hg, hh, _⟩⟩ := h
  · intro e; cases e
  · intro e
    simp only [Value.ownBlock, Option.some.injEq] at e
    have := (Array.getElem?_eq_some_iff.1 hh).1
    omega

theorem SlI_zero {W : World} {b o b' o' l c : Nat} {A : List (List UInt8)} (h : SlI W (.slice (some ⟨b, o, none⟩) l c) A) (hc : c = 0) : SlI W (.slice (some ⟨b', o', none⟩) l 0) A := by
  subst hc
  obtain ⟨a, c, he, h1, h2, h3, h4⟩ := h
  injection he with e1 e2 e3
  subst e3 e2
  have : A = [] := List.length_eq_zero_iff.1 (by omega)
  subst this
  exact ⟨_, 0, rfl, by simp, by unfold maxLen; omega, ⟨by simp, .inl rfl⟩, fun e => by cases e⟩

/-- What a round finds. -/
def MInv (W : World) (n : Nat) (R : List (List UInt8)) (g : Nat) (va vb vo : Value) (wr : World) : Prop :=
  ∃ A B O, SlI W va A ∧ SlI W vb B ∧ rowI W.heap.size O vo wr ∧ O ++ List.merge A B leB = R ∧ O.length + A.length + B.length = n ∧ (∀ x ∈ O, x.length = 32) ∧ g = A.length + B.length ∧ Below W.heap.size W wr

set_option maxHeartbeats 4000000 in
set_option maxRecDepth 100000 in
theorem merge_big (n : Nat) (hn2 : 2 ≤ n) (ih : ∀ m, m < n → MergeAt m) : MergeAt n := by
  intro a cap xs w hlen hcap hcm hm hin hnone
  rcases hin.2 with rfl | ⟨b, off, rfl, hc⟩
  · simp at hlen; omega
  clear hc hnone
  have H1 := Lib.hid (fun X hb => ih (n / 2) (by omega) (some ⟨b, off, none⟩) cap (xs.take (n / 2)) X (by simp; omega) (by simp; omega) hcm (by omega) (IdsIn.below (w := w) (ids_take (n / 2) hin) hb) (fun e => by cases e))
  have H2 := Lib.hid (fun X hb => ih (n - n / 2) (by omega) (some ⟨b, off + n / 2 * 32, none⟩) (cap - n / 2) (xs.drop (n / 2)) X (by simp; omega) (by simp; omega) (by omega) (by omega) (IdsIn.below (w := w) (ids_drop (n / 2) hin) hb) (fun e => by cases e))
  unfold fcmp at *
  have HM := Lib.hid (msort_big xs (by omega))
  rw [hlen] at HM
  have h32 := Lib.hid hin.1
  clear ih hin
  have HLEN := Lib.hid hlen
  have hcap' : n ≤ cap := by omega
  have hhalf : ((n : Int) / 2) = ((n / 2 : Nat) : Int) := by omega
  obtain ⟨h, hh⟩ : ∃ h, h = n / 2 := ⟨_, rfl⟩
  rw [← hh] at H1 H2 HM hhalf
  have HH := Lib.hid hh
  have hh1 : h ≤ n := by omega
  clear hh hlen
  go_enter Try.func57, Try.ntmps57
  go_wp2_with fail
  refine wp_region_specs [[], [], [1], [2], [0, 3], [], [4, 5], [], [], [8], [9], [7, 10], [], [11, 12], [6], [13]] [some 13, some 14, some 15, some 16, some 17, some 18, some 19, some 20, some 21, some 22, some 23, some 24, some 25, some 26, some 5, some 6] [0, 1, 2, 3, 4, 5, 6, 7, 8, 9, 10, 11, 12, 13, 14, 15]
    (fun a b => Below a.heap.size a b)
    (fun ix_ => [eqv (.slice (some ⟨b, off, none⟩) n cap), eqv (.slice (some ⟨b, off, none⟩) n cap), eqv (.int .i64 n), eqv (.int .i64 h), eqv (.slice (some ⟨b, off, none⟩) h cap), eqv (.func (.func 44) #[] #[]), rowI w.heap.size (msort (xs.take h)), eqv (.slice (some ⟨b, off, none⟩) n cap), eqv (.slice (some ⟨b, off, none⟩) n cap), eqv (.int .i64 n), eqv (.int .i64 h), eqv (.slice (some ⟨b, off + h * 32, none⟩) (n - h) (cap - h)), eqv (.func (.func 44) #[] #[]), rowI w.heap.size (msort (xs.drop h)), rowI w.heap.size (msort (xs.take h)), rowI w.heap.size (msort (xs.drop h))].getD ix_ anyv)
    (by kernel_rfl) (by kernel_rfl) (below_drewN (Below.refl _ _) 1) (fun a b c h1 h2 => h1.trans (h2.mono h1.size)) (Stables.get (by exact ⟨eqv_st _ _, eqv_st _ _, eqv_st _ _, eqv_st _ _, eqv_st _ _, eqv_st _ _, rowI_st _ _, eqv_st _ _, eqv_st _ _, eqv_st _ _, eqv_st _ _, eqv_st _ _, eqv_st _ _, rowI_st _ _, rowI_st _ _, rowI_st _ _, trivial⟩)) ?_ ?_
  · refine ⟨?_, ?_, ?_, ?_, ?_, ?_, ?_, ?_, ?_, ?_, ?_, ?_, ?_, ?_, ?_, ?_, trivial⟩
    · intro vs w1 hr _ hd
      simp only [putL]
      clear hd 
      go_wp2
      exact ⟨rfl, rfl, Below.refl _ _, rfl⟩
    · intro vs w1 hr _ hd
      simp only [putL]
      clear hd 
      go_wp2
      exact ⟨rfl, rfl, Below.refl _ _, rfl⟩
    · intro vs w1 hr _ hd
      have h1 := hd.get 1 rfl
      change vs 1 = _ at h1
      simp only [putL, h1]
      clear hd h1
      go_wp2
      exact ⟨rfl, rfl, Below.refl _ _, rfl⟩
    · intro vs w1 hr _ hd
      have h2 := hd.get 2 rfl
      change vs 2 = _ at h2
      simp only [putL, h2]
      clear hd h2
      go_wp2
      exact ⟨rfl, rfl, Below.refl _ _, rfl⟩
    · intro vs w1 hr _ hd
      have h0 := hd.get 0 rfl
      change vs 0 = _ at h0
      have h3 := hd.get 3 rfl
      change vs 3 = _ at h3
      simp only [putL, h0, h3]
      clear hd h0 h3
      go_wp2
      exact ⟨rfl, rfl, Below.refl _ _, rfl⟩
    · intro vs w1 hr _ hd
      simp only [putL]
      clear hd 
      go_wp2
      exact ⟨rfl, rfl, Below.refl _ _, rfl⟩
    · intro vs w1 hr _ hd
      have h4 := hd.get 4 rfl
      change vs 4 = _ at h4
      have h5 := hd.get 5 rfl
      change vs 5 = _ at h5
      have hcall := Lib.hid (H1.out w1 hr)
      simp only [putL, h4, h5]
      clear hd h4 h5
      go_wp2_with fail
      refine (hcall.out).mono ?_
      rintro e w2 ⟨v, rfl, ho, hb2⟩
      go_wp2
      exact ⟨rfl, rfl, hb2, ownsRow_base ho hr.size⟩
    · intro vs w1 hr _ hd
      simp only [putL]
      clear hd 
      go_wp2
      exact ⟨rfl, rfl, Below.refl _ _, rfl⟩
    · intro vs w1 hr _ hd
      simp only [putL]
      clear hd 
      go_wp2
      exact ⟨rfl, rfl, Below.refl _ _, rfl⟩
    · intro vs w1 hr _ hd
      have h8 := hd.get 8 rfl
      change vs 8 = _ at h8
      simp only [putL, h8]
      clear hd h8
      go_wp2
      exact ⟨rfl, rfl, Below.refl _ _, rfl⟩
    · intro vs w1 hr _ hd
      have h9 := hd.get 9 rfl
      change vs 9 = _ at h9
      simp only [putL, h9]
      clear hd h9
      go_wp2
      exact ⟨rfl, rfl, Below.refl _ _, rfl⟩
    · intro vs w1 hr _ hd
      have h7 := hd.get 7 rfl
      change vs 7 = _ at h7
      have h10 := hd.get 10 rfl
      change vs 10 = _ at h10
      simp only [putL, h7, h10]
      clear hd h7 h10
      go_wp2
      exact ⟨rfl, rfl, Below.refl _ _, rfl⟩
    · intro vs w1 hr _ hd
      simp only [putL]
      clear hd 
      go_wp2
      exact ⟨rfl, rfl, Below.refl _ _, rfl⟩
    · intro vs w1 hr _ hd
      have h11 := hd.get 11 rfl
      change vs 11 = _ at h11
      have h12 := hd.get 12 rfl
      change vs 12 = _ at h12
      have hcall := Lib.hid (H2.out w1 hr)
      simp only [putL, h11, h12]
      clear hd h11 h12
      go_wp2_with fail
      refine (hcall.out).mono ?_
      rintro e w2 ⟨v, rfl, ho, hb2⟩
      go_wp2
      exact ⟨rfl, rfl, hb2, ownsRow_base ho hr.size⟩
    · intro vs w1 hr _ hd
      have h6 := hd.get 6 rfl
      simp only [putL]
      clear hd 
      go_wp2
      exact ⟨rfl, rfl, Below.refl _ _, h6⟩
    · intro vs w1 hr _ hd
      have h13 := hd.get 13 rfl
      simp only [putL]
      clear hd 
      go_wp2
      exact ⟨rfl, rfl, Below.refl _ _, h13⟩
  · intro vs w1 hr hd
    have h0 := hd.get 0 rfl
    change vs 0 = _ at h0
    have h1 := hd.get 1 rfl
    change vs 1 = _ at h1
    have h2 := hd.get 2 rfl
    change vs 2 = _ at h2
    have h3 := hd.get 3 rfl
    change vs 3 = _ at h3
    have h4 := hd.get 4 rfl
    change vs 4 = _ at h4
    have h5 := hd.get 5 rfl
    change vs 5 = _ at h5
    have h7 := hd.get 7 rfl
    change vs 7 = _ at h7
    have h8 := hd.get 8 rfl
    change vs 8 = _ at h8
    have h9 := hd.get 9 rfl
    change vs 9 = _ at h9
    have h10 := hd.get 10 rfl
    change vs 10 = _ at h10
    have h11 := hd.get 11 rfl
    change vs 11 = _ at h11
    have h12 := hd.get 12 rfl
    change vs 12 = _ at h12
    have h6 := hd.get 6 rfl
    have h13 := hd.get 13 rfl
    have h14 := hd.get 14 rfl
    have h15 := hd.get 15 rfl
    simp only [putL, List.getD_cons_zero, List.getD_cons_succ, Act.put, List.setIfInBounds_toArray, List.set_cons_zero, List.set_cons_succ, h0, h1, h2, h3, h4, h5, h7, h8, h9, h10, h11, h12]
    clear hd h0 h1 h2 h3 h4 h5 h7 h8 h9 h10 h11 h12
    have l1 : (msort (xs.take h)).length = h := by rw [msort_length]; simp; have := HLEN.out; omega
    have l2 : (msort (xs.drop h)).length = n - h := by rw [msort_length]; simp; have := HLEN.out; omega
    have s1 := SlI_row (msort_32 (fun x hx => h32.out x (List.mem_of_mem_take hx))) h14
    have s2 := SlI_row (msort_32 (fun x hx => h32.out x (List.mem_of_mem_drop hx))) h15
    obtain ⟨A0, hA0⟩ : ∃ A0, A0 = msort (xs.take h) := ⟨_, rfl⟩
    obtain ⟨B0, hB0⟩ : ∃ B0, B0 = msort (xs.drop h) := ⟨_, rfl⟩
    rw [← hA0] at l1 s1
    rw [← hB0] at l2 s2
    have HRE := Lib.hid (show List.merge A0 B0 leB = msort xs by rw [HM.out, hA0, hB0])
    have HR := Lib.hid hr
    obtain ⟨vo, w2, hmk, hro, hbk⟩ := run_make_ids w1 n (by omega)
    have S1 := Lib.hid s1
    have S2 := Lib.hid s2
    have HRO := Lib.hid hro
    have HBK := Lib.hid hbk
    have HMK := Lib.hid hmk
    generalize vs 6 = v6 at *
    generalize vs 13 = v13 at *
    generalize vs 14 = v14 at *
    generalize vs 15 = v15 at *
    clear HM H1 H2 hA0 hB0 h6 h13 h14 h15 hr s1 s2 hro hbk hmk
    go_wp2_with fail
    rw [HMK.out]
    simp only [Result.andThen_ok]
    rw [Oper.upon_value]
    clear HMK
    go_wp2_with fail
    go_loopg [5, 6, 7] n (fun g va vb vo wr => MInv w1 n (msort xs) g va vb vo wr)
    case atStart => exact ⟨A0, B0, [], S1.out, S2.out, HRO.out, by rw [← HRE.out]; rfl, by simp; omega, by simp, by omega, HBK.out⟩
    case round =>
      obtain ⟨A, B, O, sa, sb, ho, hmr, hlen, hO, hg, hb⟩ := hrel
      have SA := Lib.hid sa
      have SB := Lib.hid sb
      have HO := Lib.hid ho
      have HMR := Lib.hid hmr
      have HL := Lib.hid hlen
      have HO32 := Lib.hid hO
      have HG := Lib.hid hg
      have HB := Lib.hid hb
      clear sa sb ho hmr hlen hO hg hb
      cases A with
      | nil =>
        obtain ⟨a1, k1, rfl, q1, q2, q3, q4⟩ := SA.out
        obtain ⟨a2, k2, rfl, p1, p2, p3, p4⟩ := SB.out
        simp only [List.length_nil]
        have Q3 := Lib.hid q3
        have P3 := Lib.hid p3
        have Q4 := Lib.hid q4
        have P4 := Lib.hid p4
        clear q1 q2 q3 q4 p1 p2 p3 p4
        obtain ⟨O1, hO1⟩ : ∃ O1, O1 = O ++ [] := ⟨_, rfl⟩
        have HO1E := Lib.hid hO1
        have HO1L := Lib.hid (show O1.length = O.length + ([] : List (List UInt8)).length by rw [hO1, List.length_append])
        have HO2E := Lib.hid (show msort xs = O1 ++ B by rw [hO1, ← HMR.out]; simp)
        have HC1 := Lib.hid (show O.length + ([] : List (List UInt8)).length ≤ 4000000 by have := HL.out; simp only [List.length_nil] at this ⊢; omega)
        have HC2 := Lib.hid (show O1.length + (B : List (List UInt8)).length ≤ 4000000 by have := HL.out; rw [HO1L.out]; simp only [List.length_nil] at this ⊢; omega)
        clear hO1
        go_wp2_with (at_builtin; refine wpList_append_to rfl _ _ rfl w1.heap.size _ O [] O1 HO1E.out rfl HO.out a1 k1 rfl (Q3.out.below HB.out) Q4.out HC1.out HB.out.size ?_)
        rintro vo1 w3 ho1 hb1
        have HO1 := Lib.hid ho1
        have HB1 := Lib.hid (HB.out.trans hb1)
        clear ho1 hb1
        go_wp2_with (at_builtin; refine wpList_append_to rfl _ _ rfl w1.heap.size vo1 O1 B (msort xs) HO2E.out rfl HO1.out a2 k2 rfl (P3.out.below HB1.out) (fun e => ⟨by first | exact (P4.out e).1 | rfl, (P4.out e).2⟩) HC2.out HB1.out.size ?_)
        rintro vo2 w4 ho2 hb2
        have HO2 := Lib.hid ho2
        have HB2 := Lib.hid (HB1.out.trans hb2)
        clear ho2 hb2
        go_wp2
        go_ret
        exact ⟨vo2, rfl, ownsRow_base HO2.out HR.out.size, HR.out.trans (HB2.out.mono HR.out.size)⟩
      | cons x A =>
        cases B with
        | nil =>
          obtain ⟨a1, k1, rfl, q1, q2, q3, q4⟩ := SA.out
          obtain ⟨a2, k2, rfl, p1, p2, p3, p4⟩ := SB.out
          simp only [List.length_nil, List.length_cons]
          have Q3 := Lib.hid q3
          have P3 := Lib.hid p3
          have Q4 := Lib.hid q4
          have P4 := Lib.hid p4
          clear q1 q2 q3 q4 p1 p2 p3 p4
          obtain ⟨O1, hO1⟩ : ∃ O1, O1 = O ++ (x :: A) := ⟨_, rfl⟩
          have HO1E := Lib.hid hO1
          have HO1L := Lib.hid (show O1.length = O.length + ((x :: A) : List (List UInt8)).length by rw [hO1, List.length_append])
          have HO2E := Lib.hid (show msort xs = O1 ++ [] by rw [hO1, ← HMR.out]; simp)
          have HC1 := Lib.hid (show O.length + ((x :: A) : List (List UInt8)).length ≤ 4000000 by have := HL.out; simp only [List.length_nil, List.length_cons] at this ⊢; omega)
          have HC2 := Lib.hid (show O1.length + ([] : List (List UInt8)).length ≤ 4000000 by have := HL.out; rw [HO1L.out]; simp only [List.length_nil, List.length_cons] at this ⊢; omega)
          clear hO1
          go_wp2_with (at_builtin; refine wpList_append_to rfl _ _ rfl w1.heap.size _ O (x :: A) O1 HO1E.out rfl HO.out a1 k1 rfl (Q3.out.below HB.out) Q4.out HC1.out HB.out.size ?_)
          rintro vo1 w3 ho1 hb1
          have HO1 := Lib.hid ho1
          have HB1 := Lib.hid (HB.out.trans hb1)
          clear ho1 hb1
          go_wp2_with (at_builtin; refine wpList_append_to rfl _ _ rfl w1.heap.size vo1 O1 [] (msort xs) HO2E.out rfl HO1.out a2 k2 rfl (P3.out.below HB1.out) (fun e => ⟨by first | exact (P4.out e).1 | rfl, (P4.out e).2⟩) HC2.out HB1.out.size ?_)
          rintro vo2 w4 ho2 hb2
          have HO2 := Lib.hid ho2
          have HB2 := Lib.hid (HB1.out.trans hb2)
          clear ho2 hb2
          go_wp2
          go_ret
          exact ⟨vo2, rfl, ownsRow_base HO2.out HR.out.size, HR.out.trans (HB2.out.mono HR.out.size)⟩
        | cons y B =>
          obtain ⟨b1, o1, k1, rfl, q1, q2, q3, q4, q5⟩ := SlI_cons SA.out
          obtain ⟨b2, o2, k2, rfl, p1, p2, p3, p4, p5⟩ := SlI_cons SB.out
          obtain ⟨e1, e2⟩ := IdAt.below q4 HB.out
          obtain ⟨e3, e4⟩ := IdAt.below p4 HB.out
          have q4w := q4
          have p4w := p4
          have Q5 := Lib.hid q5
          have P5 := Lib.hid p5
          clear q4 p4 q5 p5
          unfold maxLen at q2 p2
          go_wp2_with fail
          refine wp_region_specs [[], [], [1], [2], [], [4], [5], [0, 3, 6], [7]] [some 38, some 39, some 40, some 41, some 42, some 43, some 44, some 45, some 46] [0, 1, 2, 3, 4, 5, 6, 7, 8]
            (fun a b => Below a.heap.size a b)
            (fun ix_ => [eqv (.func (.func 44) #[] #[]), eqv (.slice (some ⟨b1, o1, none⟩) (A.length + 1) (k1 + 1)), eqv (.pointer (some ⟨b1, o1, none⟩)), eqv (.agg (idB x)), eqv (.slice (some ⟨b2, o2, none⟩) (B.length + 1) (k2 + 1)), eqv (.pointer (some ⟨b2, o2, none⟩)), eqv (.agg (idB y)), eqv (.int .i64 (cmpB x y)), eqv (.bool (decide (cmpB x y ≤ 0)))].getD ix_ anyv)
            (by kernel_rfl) (by kernel_rfl) (below_drewN (Below.refl _ _) 1) (fun a b c h1 h2 => h1.trans (h2.mono h1.size)) (Stables.get (by exact ⟨eqv_st _ _, eqv_st _ _, eqv_st _ _, eqv_st _ _, eqv_st _ _, eqv_st _ _, eqv_st _ _, eqv_st _ _, eqv_st _ _, trivial⟩)) ?_ ?_
          · refine ⟨?_, ?_, ?_, ?_, ?_, ?_, ?_, ?_, ?_, trivial⟩
            · intro vs wz hr _ hd
              simp only [putL]
              clear hd 
              go_wp2
              exact ⟨rfl, rfl, Below.refl _ _, rfl⟩
            · intro vs wz hr _ hd
              simp only [putL]
              clear hd 
              go_wp2
              exact ⟨rfl, rfl, Below.refl _ _, rfl⟩
            · intro vs wz hr _ hd
              have h1 := hd.get 1 rfl
              change vs 1 = _ at h1
              simp only [putL, h1]
              clear hd h1
              go_wp2
              exact ⟨rfl, rfl, Below.refl _ _, rfl⟩
            · intro vs wz hr _ hd
              have h2 := hd.get 2 rfl
              change vs 2 = _ at h2
              have f1 := fits_of_block (a := ⟨b1, o1, none⟩) (hr.block b1 e1.lt) e1
              have f2 := (aggAt_of_block (a := ⟨b1, o1, none⟩) (n := 32) (hr.block b1 e1.lt)).trans e2
              simp only [putL, h2]
              clear hd h2
              go_wp2
              exact ⟨rfl, rfl, Below.refl _ _, rfl⟩
            · intro vs wz hr _ hd
              simp only [putL]
              clear hd 
              go_wp2
              exact ⟨rfl, rfl, Below.refl _ _, rfl⟩
            · intro vs wz hr _ hd
              have h4 := hd.get 4 rfl
              change vs 4 = _ at h4
              simp only [putL, h4]
              clear hd h4
              go_wp2
              exact ⟨rfl, rfl, Below.refl _ _, rfl⟩
            · intro vs wz hr _ hd
              have h5 := hd.get 5 rfl
              change vs 5 = _ at h5
              have f1 := fits_of_block (a := ⟨b2, o2, none⟩) (hr.block b2 e3.lt) e3
              have f2 := (aggAt_of_block (a := ⟨b2, o2, none⟩) (n := 32) (hr.block b2 e3.lt)).trans e4
              simp only [putL, h5]
              clear hd h5
              go_wp2
              exact ⟨rfl, rfl, Below.refl _ _, rfl⟩
            · intro vs wz hr _ hd
              have h0 := hd.get 0 rfl
              change vs 0 = _ at h0
              have h3 := hd.get 3 rfl
              change vs 3 = _ at h3
              have h6 := hd.get 6 rfl
              change vs 6 = _ at h6
              simp only [putL, h0, h3, h6]
              clear hd h0 h3 h6
              go_wp2_with fail
              refine (compare_any x y q3 p3 _).mono ?_
              rintro e w2 ⟨rfl, hb2⟩
              go_wp2
              exact ⟨rfl, rfl, hb2, rfl⟩
            · intro vs wz hr _ hd
              have h7 := hd.get 7 rfl
              change vs 7 = _ at h7
              simp only [putL, h7]
              clear hd h7
              go_wp2
              exact ⟨rfl, rfl, Below.refl _ _, rfl⟩
          · intro vs wz hr hd
            have h0 := hd.get 0 rfl
            change vs 0 = _ at h0
            have h1 := hd.get 1 rfl
            change vs 1 = _ at h1
            have h2 := hd.get 2 rfl
            change vs 2 = _ at h2
            have h3 := hd.get 3 rfl
            change vs 3 = _ at h3
            have h4 := hd.get 4 rfl
            change vs 4 = _ at h4
            have h5 := hd.get 5 rfl
            change vs 5 = _ at h5
            have h6 := hd.get 6 rfl
            change vs 6 = _ at h6
            have h7 := hd.get 7 rfl
            change vs 7 = _ at h7
            have h8 := hd.get 8 rfl
            change vs 8 = _ at h8
            simp only [putL, List.getD_cons_zero, List.getD_cons_succ, Act.put, List.setIfInBounds_toArray, List.set_cons_zero, List.set_cons_succ, h0, h1, h2, h3, h4, h5, h6, h7, h8]
            clear hd h0 h1 h2 h3 h4 h5 h6 h7 h8
            have HBz := Lib.hid (HB.out.trans (hr.mono HB.out.size))
            have HOz := Lib.hid (rowI_st _ _ _ _ _ HO.out hr)
            have HLE := Lib.hid (show leB x y = decide (cmpB x y ≤ 0) from rfl)
            obtain ⟨e1, e2⟩ := IdAt.below (w := wr) ⟨e1, e2⟩ hr
            obtain ⟨e3, e4⟩ := IdAt.below (w := wr) ⟨e3, e4⟩ hr
            clear hr
            generalize cmpB x y = c at *
            by_cases hle : c ≤ 0
            · go_wp2_with fail
              refine wp_region_specs2 [[], [], [1], [2], [3], [0, 4], [], [6], [5], [7]] [some 47, some 48, some 49, some 50, some 51, some 52, some 53, some 54, some 7, some 5] [0, 1, 2, 3, 4, 5, 6, 7, 8, 9]
                (fun w => Below w1.heap.size w1 w)
                (fun i w => i = 4 ∨ i = 5 → rowI w1.heap.size O u7 w)
                (appR w1.heap.size u7)
                (fun ix_ => [eqv u7, eqv (.slice (some ⟨b1, o1, none⟩) (A.length + 1) (k1 + 1)), eqv (.pointer (some ⟨b1, o1, none⟩)), eqv (.agg (idB x)), oneI u7 x, rowI w1.heap.size (O ++ [x]), eqv (.slice (some ⟨b1, o1, none⟩) (A.length + 1) (k1 + 1)), (fun v _ => SlI w1 v A), rowI w1.heap.size (O ++ [x]), (fun v _ => SlI w1 v A)].getD ix_ anyv) (by kernel_rfl) (by kernel_rfl) (below_drewN HBz.out 1) (fun i _ => rowI_st _ _ _ _ _ HOz.out (below_drewN (Below.refl _ _) 1)) (fun j w w' hg hr => appR_below rfl hg hr) ?_ ?_ ?_ ?_
              · intro i j w w' hij hd hp hr hi
                by_cases hj : j = 5
                · subst hj; rcases hi with rfl | rfl
                  · exact absurd (by decide) hd
                  · exact absurd rfl hij
                · unfold appR at hr; rw [if_neg hj] at hr; exact rowI_st _ _ _ _ _ (hp hi) hr
              · intro i j v w w' hij hd h hr
                have hrow : (j ≠ 5 → ∀ base xs, rowI base xs v w → rowI base xs v w') := fun hj base xs h => by unfold appR at hr; rw [if_neg hj] at hr; exact rowI_st _ _ _ _ _ h hr
                match i, hij, hd, h with
                | 0, _, _, h => exact h
                | 1, _, _, h => exact h
                | 2, _, _, h => exact h
                | 3, _, _, h => exact h
                | 4, _, _, h => exact oneI_st h hr
                | 5, hij, _, h => exact hrow (fun e => hij e.symm) _ _ h
                | 6, _, _, h => exact h
                | 7, _, _, h => exact h
                | 8, _, hd, h => exact hrow (fun e => hd (by rw [e]; decide)) _ _ h
                | 9, _, _, h => exact h
                | i + 10, _, _, h => exact trivial
              · refine ⟨?_, ?_, ?_, ?_, ?_, ?_, ?_, ?_, ?_, ?_, trivial⟩
                · intro vs wq hG hP hd
                  simp only [putL]
                  clear hd hP 
                  go_wp2
                  exact ⟨rfl, rfl, appR_b (by decide) (Below.refl _ _), rfl⟩
                · intro vs wq hG hP hd
                  simp only [putL]
                  clear hd hP 
                  go_wp2
                  exact ⟨rfl, rfl, appR_b (by decide) (Below.refl _ _), rfl⟩
                · intro vs wq hG hP hd
                  have h1 := hd.get 1 rfl
                  change vs 1 = _ at h1
                  simp only [putL, h1]
                  clear hd hP h1
                  go_wp2
                  exact ⟨rfl, rfl, appR_b (by decide) (Below.refl _ _), rfl⟩
                · intro vs wq hG hP hd
                  have h2 := hd.get 2 rfl
                  change vs 2 = _ at h2
                  have f1 := fits_of_block (a := ⟨b1, o1, none⟩) (hG.block b1 q4w.1.lt) q4w.1
                  have f2 := (aggAt_of_block (a := ⟨b1, o1, none⟩) (n := 32) (hG.block b1 q4w.1.lt)).trans q4w.2
                  simp only [putL, h2]
                  clear hd hP h2
                  go_wp2
                  exact ⟨rfl, rfl, appR_b (by decide) (Below.refl _ _), rfl⟩
                · intro vs wq hG hP hd
                  have h3 := hd.get 3 rfl
                  change vs 3 = _ at h3
                  simp only [putL, h3]
                  have hne := Lib.hid (own_ne (hP (.inl rfl)))
                  clear hd hP h3
                  refine wpList_buildIds rfl 1 _ rfl [x] (by simpa using q3) rfl (by decide) (by decide) (by simp only [List.map_toArray, List.map_cons, List.map_nil, idParts]; rfl) ?_
                  rw [show (idsC [x]).toArray = idB x from by simp [idsC, idB]]
                  exact ⟨rfl, rfl, appR_b (by decide) ((Below.refl _ _).alloc (Nat.le_refl _) _), _, rfl, one_new q3, hne.out⟩
                · intro vs wq hG hP hd
                  have h0 := hd.get 0 rfl
                  change vs 0 = _ at h0
                  obtain ⟨g4, h4, h4i, h4n⟩ := hd.get 4 rfl
                  simp only [putL, h0, h4]
                  have hOq := Lib.hid (hP (.inr rfl))
                  have h4I := Lib.hid h4i
                  have hGs := Lib.hid hG.size
                  clear hd hP h4i h4n h0 h4
                  go_wp2_with (at_builtin; refine wpList_append_one rfl _ _ rfl w1.heap.size u7 O [x] rfl hOq.out ⟨g4, 0, none⟩ 1 rfl h4I.out (by have := HL.out; simp only [List.length_cons, List.length_nil] at this ⊢; omega) hGs.out ?_)
                  intro v' w' h1 h2 h3
                  exact ⟨rfl, rfl, by unfold appR; simp; exact ⟨h2, h3⟩, (show rowI w1.heap.size _ v' w' from by unfold rowI; rw [List.length_append]; exact h1)⟩
                · intro vs wq hG hP hd
                  simp only [putL]
                  clear hd hP 
                  go_wp2
                  exact ⟨rfl, rfl, appR_b (by decide) (Below.refl _ _), rfl⟩
                · intro vs wq hG hP hd
                  have h6 := hd.get 6 rfl
                  change vs 6 = _ at h6
                  simp only [putL, h6]
                  clear hd hP h6
                  have HQ := Lib.hid Q5.out
                  go_wp2
                  · exact ⟨rfl, rfl, appR_b (by decide) (Below.refl _ _), SlI_zero HQ.out (by first | rfl | omega)⟩
                  · exact ⟨rfl, rfl, appR_b (by decide) (Below.refl _ _), HQ.out⟩
                · intro vs wq hG hP hd
                  have h5 := hd.get 5 rfl
                  simp only [putL]
                  clear hd hP
                  go_wp2
                  exact ⟨rfl, rfl, appR_b (by decide) (Below.refl _ _), h5⟩
                · intro vs wq hG hP hd
                  have h7 := hd.get 7 rfl
                  simp only [putL]
                  clear hd hP
                  go_wp2
                  exact ⟨rfl, rfl, appR_b (by decide) (Below.refl _ _), h7⟩
              · intro vs wq hG hd
                have h0 := hd.get 0 rfl
                change vs 0 = _ at h0
                have h1 := hd.get 1 rfl
                change vs 1 = _ at h1
                have h2 := hd.get 2 rfl
                change vs 2 = _ at h2
                have h3 := hd.get 3 rfl
                change vs 3 = _ at h3
                have h6 := hd.get 6 rfl
                change vs 6 = _ at h6
                obtain ⟨g4, h4, _, _⟩ := hd.get 4 rfl
                have H8 := Lib.hid (hd.get 8 rfl)
                have H9 := Lib.hid (hd.get 9 rfl)
                have HGq := Lib.hid hG
                simp only [putL, List.getD_cons_zero, List.getD_cons_succ, Act.put, List.setIfInBounds_toArray, List.set_cons_zero, List.set_cons_succ, h0, h1, h2, h3, h4, h6]
                clear hd h0 h1 h2 h3 h4 h6 hG
                generalize vs 5 = v5 at *
                generalize vs 7 = v7 at *
                generalize vs 8 = v8 at *
                generalize vs 9 = v9 at *
                go_wp2
                go_roundg (A.length + (B.length + 1))
                case measure => have := HG.out; simp only [List.length_cons] at this; omega
                case rel => exact ⟨A, y :: B, O ++ [x], H9.out, SB.out, H8.out, by rw [← HMR.out, List.cons_merge_cons, if_pos (by rw [HLE.out]; simpa using hle)]; simp, by have := HL.out; simp only [List.length_append, List.length_cons, List.length_nil] at this ⊢; omega, fun z hz => by rcases List.mem_append.1 hz with hz | hz; exact HO32.out z hz; rw [List.mem_singleton.1 hz]; exact q3, by simp, HGq.out⟩
            · go_wp2_with fail
              refine wp_region_specs2 [[], [], [1], [2], [3], [0, 4], [], [6], [5], [7]] [some 55, some 56, some 57, some 58, some 59, some 60, some 61, some 62, some 7, some 6] [0, 1, 2, 3, 4, 5, 6, 7, 8, 9]
                (fun w => Below w1.heap.size w1 w)
                (fun i w => i = 4 ∨ i = 5 → rowI w1.heap.size O u7 w)
                (appR w1.heap.size u7)
                (fun ix_ => [eqv u7, eqv (.slice (some ⟨b2, o2, none⟩) (B.length + 1) (k2 + 1)), eqv (.pointer (some ⟨b2, o2, none⟩)), eqv (.agg (idB y)), oneI u7 y, rowI w1.heap.size (O ++ [y]), eqv (.slice (some ⟨b2, o2, none⟩) (B.length + 1) (k2 + 1)), (fun v _ => SlI w1 v B), rowI w1.heap.size (O ++ [y]), (fun v _ => SlI w1 v B)].getD ix_ anyv) (by kernel_rfl) (by kernel_rfl) (below_drewN HBz.out 1) (fun i _ => rowI_st _ _ _ _ _ HOz.out (below_drewN (Below.refl _ _) 1)) (fun j w w' hg hr => appR_below rfl hg hr) ?_ ?_ ?_ ?_
              · intro i j w w' hij hd hp hr hi
                by_cases hj : j = 5
                · subst hj; rcases hi with rfl | rfl
                  · exact absurd (by decide) hd
                  · exact absurd rfl hij
                · unfold appR at hr; rw [if_neg hj] at hr; exact rowI_st _ _ _ _ _ (hp hi) hr
              · intro i j v w w' hij hd h hr
                have hrow : (j ≠ 5 → ∀ base xs, rowI base xs v w → rowI base xs v w') := fun hj base xs h => by unfold appR at hr; rw [if_neg hj] at hr; exact rowI_st _ _ _ _ _ h hr
                match i, hij, hd, h with
                | 0, _, _, h => exact h
                | 1, _, _, h => exact h
                | 2, _, _, h => exact h
                | 3, _, _, h => exact h
                | 4, _, _, h => exact oneI_st h hr
                | 5, hij, _, h => exact hrow (fun e => hij e.symm) _ _ h
                | 6, _, _, h => exact h
                | 7, _, _, h => exact h
                | 8, _, hd, h => exact hrow (fun e => hd (by rw [e]; decide)) _ _ h
                | 9, _, _, h => exact h
                | i + 10, _, _, h => exact trivial
              · refine ⟨?_, ?_, ?_, ?_, ?_, ?_, ?_, ?_, ?_, ?_, trivial⟩
                · intro vs wq hG hP hd
                  simp only [putL]
                  clear hd hP 
                  go_wp2
                  exact ⟨rfl, rfl, appR_b (by decide) (Below.refl _ _), rfl⟩
                · intro vs wq hG hP hd
                  simp only [putL]
                  clear hd hP 
                  go_wp2
                  exact ⟨rfl, rfl, appR_b (by decide) (Below.refl _ _), rfl⟩
                · intro vs wq hG hP hd
                  have h1 := hd.get 1 rfl
                  change vs 1 = _ at h1
                  simp only [putL, h1]
                  clear hd hP h1
                  go_wp2
                  exact ⟨rfl, rfl, appR_b (by decide) (Below.refl _ _), rfl⟩
                · intro vs wq hG hP hd
                  have h2 := hd.get 2 rfl
                  change vs 2 = _ at h2
                  have f1 := fits_of_block (a := ⟨b2, o2, none⟩) (hG.block b2 p4w.1.lt) p4w.1
                  have f2 := (aggAt_of_block (a := ⟨b2, o2, none⟩) (n := 32) (hG.block b2 p4w.1.lt)).trans p4w.2
                  simp only [putL, h2]
                  clear hd hP h2
                  go_wp2
                  exact ⟨rfl, rfl, appR_b (by decide) (Below.refl _ _), rfl⟩
                · intro vs wq hG hP hd
                  have h3 := hd.get 3 rfl
                  change vs 3 = _ at h3
                  simp only [putL, h3]
                  have hne := Lib.hid (own_ne (hP (.inl rfl)))
                  clear hd hP h3
                  refine wpList_buildIds rfl 1 _ rfl [y] (by simpa using p3) rfl (by decide) (by decide) (by simp only [List.map_toArray, List.map_cons, List.map_nil, idParts]; rfl) ?_
                  rw [show (idsC [y]).toArray = idB y from by simp [idsC, idB]]
                  exact ⟨rfl, rfl, appR_b (by decide) ((Below.refl _ _).alloc (Nat.le_refl _) _), _, rfl, one_new p3, hne.out⟩
                · intro vs wq hG hP hd
                  have h0 := hd.get 0 rfl
                  change vs 0 = _ at h0
                  obtain ⟨g4, h4, h4i, h4n⟩ := hd.get 4 rfl
                  simp only [putL, h0, h4]
                  have hOq := Lib.hid (hP (.inr rfl))
                  have h4I := Lib.hid h4i
                  have hGs := Lib.hid hG.size
                  clear hd hP h4i h4n h0 h4
                  go_wp2_with (at_builtin; refine wpList_append_one rfl _ _ rfl w1.heap.size u7 O [y] rfl hOq.out ⟨g4, 0, none⟩ 1 rfl h4I.out (by have := HL.out; simp only [List.length_cons, List.length_nil] at this ⊢; omega) hGs.out ?_)
                  intro v' w' h1 h2 h3
                  exact ⟨rfl, rfl, by unfold appR; simp; exact ⟨h2, h3⟩, (show rowI w1.heap.size _ v' w' from by unfold rowI; rw [List.length_append]; exact h1)⟩
                · intro vs wq hG hP hd
                  simp only [putL]
                  clear hd hP 
                  go_wp2
                  exact ⟨rfl, rfl, appR_b (by decide) (Below.refl _ _), rfl⟩
                · intro vs wq hG hP hd
                  have h6 := hd.get 6 rfl
                  change vs 6 = _ at h6
                  simp only [putL, h6]
                  clear hd hP h6
                  have HQ := Lib.hid P5.out
                  go_wp2
                  · exact ⟨rfl, rfl, appR_b (by decide) (Below.refl _ _), SlI_zero HQ.out (by first | rfl | omega)⟩
                  · exact ⟨rfl, rfl, appR_b (by decide) (Below.refl _ _), HQ.out⟩
                · intro vs wq hG hP hd
                  have h5 := hd.get 5 rfl
                  simp only [putL]
                  clear hd hP
                  go_wp2
                  exact ⟨rfl, rfl, appR_b (by decide) (Below.refl _ _), h5⟩
                · intro vs wq hG hP hd
                  have h7 := hd.get 7 rfl
                  simp only [putL]
                  clear hd hP
                  go_wp2
                  exact ⟨rfl, rfl, appR_b (by decide) (Below.refl _ _), h7⟩
              · intro vs wq hG hd
                have h0 := hd.get 0 rfl
                change vs 0 = _ at h0
                have h1 := hd.get 1 rfl
                change vs 1 = _ at h1
                have h2 := hd.get 2 rfl
                change vs 2 = _ at h2
                have h3 := hd.get 3 rfl
                change vs 3 = _ at h3
                have h6 := hd.get 6 rfl
                change vs 6 = _ at h6
                obtain ⟨g4, h4, _, _⟩ := hd.get 4 rfl
                have H8 := Lib.hid (hd.get 8 rfl)
                have H9 := Lib.hid (hd.get 9 rfl)
                have HGq := Lib.hid hG
                simp only [putL, List.getD_cons_zero, List.getD_cons_succ, Act.put, List.setIfInBounds_toArray, List.set_cons_zero, List.set_cons_succ, h0, h1, h2, h3, h4, h6]
                clear hd h0 h1 h2 h3 h4 h6 hG
                generalize vs 5 = v5 at *
                generalize vs 7 = v7 at *
                generalize vs 8 = v8 at *
                generalize vs 9 = v9 at *
                go_wp2
                go_roundg (A.length + 1 + B.length)
                case measure => have := HG.out; simp only [List.length_cons] at this; omega
                case rel => exact ⟨x :: A, B, O ++ [y], SA.out, H9.out, H8.out, by rw [← HMR.out, List.cons_merge_cons, if_neg (by rw [HLE.out]; simpa using hle)]; simp, by have := HL.out; simp only [List.length_append, List.length_cons, List.length_nil] at this ⊢; omega, fun z hz => by rcases List.mem_append.1 hz with hz | hz; exact HO32.out z hz; rw [List.mem_singleton.1 hz]; exact p3, by simp, HGq.out⟩



end Go.Proofs.Ytmmmimkikakalaa

namespace Go.Proofs.Ytmmmimkikakalaa
open Go.RowKit
set_option linter.unusedVariables false

theorem merge_any (n : Nat) : MergeAt n := by
  induction n using Nat.strongRecOn with
  | _ n ih =>
    by_cases h : 2 ≤ n
    · exact merge_big n h ih
    · intro a cap xs w hlen hcap hcm hm hin hnone
      have := merge_small a cap xs w (by omega) hin hnone
      rw [hlen] at this
      refine this.mono ?_
      rintro e w' ⟨v, he, ho, hb⟩
      refine ⟨v, he, ?_, hb⟩
      unfold rowI
      rw [msort_small xs (by omega), hlen]
      exact ho

set_option maxHeartbeats 1000000 in
set_option maxRecDepth 100000 in
theorem sort_any (a : Option Addr) (cap : Nat) (xs : List (List UInt8)) (w : World) (hcap : xs.length ≤ cap) (hcm : cap ≤ maxLen) (hm : xs.length ≤ 1000000) (hin : IdsIn w a xs) (hn : a = none → xs = [] ∧ cap = 0) :
    Calls Try.prog 46 #[.slice a xs.length cap] w fun e w' => ∃ v, e = .returned v ∧ rowI w.heap.size (msort xs) v w' ∧ Below w.heap.size w w' := by
  have H := Lib.hid (merge_any xs.length a cap xs w rfl hcap hcm hm hin hn)
  unfold fcmp at H
  clear hcap hcm hm hin hn
  go_enter Try.func46, Try.ntmps46
  go_wp2_with fail
  refine H.out.mono ?_
  rintro e w1 ⟨v, rfl, ho, hb⟩
  have HO := Lib.hid ho
  have HB := Lib.hid hb
  clear ho hb
  go_wp2
  go_ret
  exact ⟨v, rfl, HO.out, HB.out⟩

end Go.Proofs.Ytmmmimkikakalaa
