/- Literals of records: slices and structs, whatever the program. -/
import Derived.Test.YtcgioboiebanpaaRec
import Derived.Great.BuildSlice
namespace Go.Proofs.Ytcgioboiebanpaa
open Go.RowKit
set_option linter.unusedVariables false

theorem fold_setB (off : Nat) : ∀ (l : List Value) (k : Nat) (cs : List Value), off + k + l.length ≤ cs.length →
    ((l.zipIdx k).foldl (fun cs (x : Value × Nat) => cs.setIfInBounds (off + x.2) x.1) cs.toArray) = (cs.take (off + k) ++ l ++ cs.drop (off + k + l.length)).toArray
  | [], k, cs, _ => by simp
  | v :: l, k, cs, h => by
    simp only [List.length_cons] at h
    rw [List.zipIdx_cons, List.foldl_cons]
    simp only [List.setIfInBounds_toArray]
    rw [fold_setB off l (k + 1) (cs.set (off + k) v) (by simp; omega)]
    congr 1
    have e1 : (cs.set (off + k) v).take (off + (k + 1)) = cs.take (off + k) ++ [v] := by
      rw [show off + (k + 1) = off + k + 1 by omega, List.take_succ_eq_append_getElem (by simp; omega)]
      simp [List.take_set_of_le]
    have e2 : (cs.set (off + k) v).drop (off + (k + 1) + l.length) = cs.drop (off + k + (l.length + 1)) := by
      rw [List.drop_set, if_pos (by omega)]
      congr 1; omega
    rw [e1, e2]
    simp
theorem fill_one {pl : Nat → Option (Nat × Nat)} {i off sz : Nat} {v : Value} {c cs : List Value} {rest : List (Nat × Value)} (hp : pl i = some (off, sz)) (hv : v.cells = c.toArray) (hl : c.length = sz) (hb : off + sz ≤ cs.length) :
    Instr.fill pl cs.toArray ((i, v) :: rest) = Instr.fill pl (cs.take off ++ c ++ cs.drop (off + sz)).toArray rest := by
  rw [Instr.fill]
  have hf := fold_setB off c 0 cs (by rw [hl]; omega)
  simp only [hp, hv, List.size_toArray, hl, ne_eq, not_true_eq_false, decide_false, Bool.false_or]
  rw [if_neg (by simp; omega)]
  have hz2 : c.toArray.zipIdx.foldl (fun cs (x : Value × Nat) => cs.setIfInBounds (off + x.2) x.1) cs.toArray = (c.zipIdx 0).foldl (fun cs (x : Value × Nat) => cs.setIfInBounds (off + x.2) x.1) cs.toArray := by
    simp
  rw [hz2, hf, hl, Nat.add_zero]
namespace Rec
variable {α : Type} {R : Rec α}
def parts (R : Rec α) (vs : List (Value × α)) (k : Nat) : List (Nat × Value) := (vs.zipIdx k).map fun x => (x.2, x.1.1)
theorem fillR : ∀ (vs : List (Value × α)) (k : Nat) (cs : List Value), (∀ x ∈ vs, R.ok x.2 ∧ x.1.cells = (R.enc x.2).toArray) → cs.length = (k + vs.length) * R.sz →
    Instr.fill (fun i => some (i * R.sz, R.sz)) cs.toArray (parts R vs k) = some (cs.take (k * R.sz) ++ R.cells (vs.map (·.2))).toArray
  | [], k, cs, _, h => by
    simp at h
    simp [parts, Instr.fill, Rec.cells, List.take_of_length_le (show cs.length ≤ k * R.sz by omega)]
  | x :: vs, k, cs, hx, h => by
    obtain ⟨h1, h2⟩ := hx x (by simp)
    have hl := R.len x.2 h1
    simp only [List.length_cons] at h
    have hsz : (k + (vs.length + 1)) * R.sz = k * R.sz + R.sz + vs.length * R.sz := by rw [Nat.add_mul, Nat.add_mul]; omega
    have e : parts R (x :: vs) k = (k, x.1) :: parts R vs (k + 1) := rfl
    rw [e, fill_one rfl h2 hl (by omega), fillR vs (k + 1) _ (fun y hy => hx y (by simp [hy])) (by
      have : (k + 1 + vs.length) * R.sz = k * R.sz + R.sz + vs.length * R.sz := by rw [Nat.add_mul, Nat.add_mul]; omega
      simp [hl]; omega)]
    congr 2
    rw [List.map_cons, cells_cons]
    have e2 : (k + 1) * R.sz = k * R.sz + R.sz := by rw [Nat.add_mul]; omega
    rw [List.take_append_of_le_length (by simp [hl]; omega), List.take_of_length_le (by simp [hl]; omega)]
    simp
/-- '[]T{x, ..}'. -/
theorem run_lit {P : Program} {t e : TypeId} {bytes : Nat} (hT : Ty R P t e bytes) (w : World) (n : Nat) (vs : List (Value × α)) (ps : Array (Nat × Value)) (hp : ps.toList = parts R vs 0) (hn : vs.length = n) (hpos : 0 < n) (hsm : n * R.sz ≤ 10000000) (hx : ∀ x ∈ vs, R.ok x.2 ∧ x.1.cells = (R.enc x.2).toArray) :
    (Instr.buildSlice t n ps).run P w = .ok (.slice (some ⟨w.heap.size, 0, none⟩) n n) (w.alloc (.cells (R.cells (vs.map (·.2))).toArray e)) := by
  obtain ⟨i, z, hi, hz0, hz1, hz2, hz3⟩ := hT.info
  have hsp := R.pos
  have hpp : 0 < n * R.sz := Nat.mul_pos hpos hsp
  refine run_buildSlice w t e n ps _ i z hT.u hi hz0 (by rw [hz1]; omega) (by rw [hz1]; omega) ?_
  have := fillR vs 0 ((Array.range (n * R.sz)).map (fun j => z.cells[j % z.cells.size]!)).toList hx (by simp [hn])
  rw [Array.toArray_toList] at this
  rw [hz1, hp]
  exact this.trans (by simp)
end Rec
end Go.Proofs.Ytcgioboiebanpaa

namespace Go.Proofs.Ytcgioboiebanpaa
open Go.RowKit
set_option linter.unusedVariables false

/-- Slices. -/
def hdrR : Rec (Option Addr × Nat × Nat) where
  enc h := [.slice h.1 h.2.1 h.2.2]
  sz := 1
  ok _ := True
  pos := by decide
  len _ _ := rfl
  one x _ u hu := by simp at hu; subst hu; rfl
theorem hdr_cell {w : World} {b o k : Nat} {x : Option Addr × Nat × Nat} (h : hdrR.At w ⟨b, o + k * hdrR.sz, none⟩ x) : w.cell? ⟨b, o + k, none⟩ = some (.slice x.1 x.2.1 x.2.2) := by
  have h1 : hdrR.At w ⟨b, o + k, none⟩ x := by have := h; simpa [hdrR] using this
  have := aggAt_get (j := 0) h1.1 Nat.one_pos
  rw [h1.2] at this
  simpa [hdrR] using this
theorem made_hdrs (n : Nat) : (madeCells #[.slice none 0 0] n).toList = hdrR.cells (List.replicate n (none, 0, 0)) := by
  rw [toList_madeCells_one]
  induction n with
  | zero => rfl
  | succ n ih => rw [List.replicate_succ, List.replicate_succ, Rec.cells_cons, ih]; rfl
theorem hrow_made (w : World) (e : TypeId) (n : Nat) (hn : n ≤ 1000000) : hdrR.row e w.heap.size (List.replicate n (none, 0, 0)) (.slice (some ⟨w.heap.size, 0, none⟩) n n) (w.alloc (.cells (madeCells #[.slice none 0 0] n) e)) := by
  have hs : (madeCells #[Value.slice none 0 0] n).size = n := by
    have := congrArg List.length (made_hdrs n)
    rw [Rec.cells_length _ _ (fun _ _ => trivial)] at this
    simpa [hdrR] using this
  refine ⟨fun _ _ => trivial, by rw [Rec.cells_length _ _ (fun _ _ => trivial)], .inr ⟨w.heap.size, n, madeCells #[.slice none 0 0] n, by simp, Nat.le_refl _, (MapKept.heap_alloc w _).1, by simp, by unfold maxLen; omega, by rw [hs]; simp [hdrR], ?_⟩⟩
  rw [made_hdrs n, List.take_of_length_le (by rw [Rec.cells_length _ _ (fun _ _ => trivial)]; simp)]
theorem hdr_frozen {t : TypeId} {w : World} {base g l c k : Nat} {O : List (Option Addr × Nat × Nat)} (hk : k < O.length) (h : hdrR.row t base O (.slice (some ⟨g, 0, none⟩) l c) w) : w.frozen? ⟨g, k, none⟩ = false := by
  obtain ⟨_, cur, e, hh, hl⟩ := h.fitsW hk
  simp only at hh
  simp [World.frozen?, hh]
theorem hdr_at {t : TypeId} {w : World} {base g l c k : Nat} {O : List (Option Addr × Nat × Nat)} {x : Option Addr × Nat × Nat} (hk : O[k]? = some x) (h : hdrR.row t base O (.slice (some ⟨g, 0, none⟩) l c) w) : w.cell? ⟨g, k, none⟩ = some (.slice x.1 x.2.1 x.2.2) := by
  have h2 : hdrR.At w ⟨g, 0 + k * hdrR.sz, none⟩ x := by simpa using h.at hk
  simpa using hdr_cell h2
theorem hdr_set {t : TypeId} {w : World} {base g l c k : Nat} {O : List (Option Addr × Nat × Nat)} (x : Option Addr × Nat × Nat) (hk : k < O.length) (h : hdrR.row t base O (.slice (some ⟨g, 0, none⟩) l c) w) :
    hdrR.row t base (O.set k x) (.slice (some ⟨g, 0, none⟩) l c) (w.setCell ⟨g, k, none⟩ (.slice x.1 x.2.1 x.2.2)) ∧ Below base w (w.setCell ⟨g, k, none⟩ (.slice x.1 x.2.1 x.2.2)) := by
  obtain ⟨_, cur, e, hh, hl⟩ := h.fitsW hk
  have hp := h.put (x := x) trivial hk
  simp only [show k * hdrR.sz = k from Nat.mul_one k] at hp hh hl
  have he : putC w ⟨g, k, none⟩ (hdrR.enc x).toArray = w.setCell ⟨g, k, none⟩ (.slice x.1 x.2.1 x.2.2) := by
    have hl' : k + 1 ≤ cur.size := hl
    rw [setCell_eq_setRow w g k cur e (0, 0) _ hh]
    unfold putC
    simp only [hh]
    congr 1
    apply Array.ext'
    simp only [hdrR, List.size_toArray, List.length_cons, List.length_nil, Array.toList_setIfInBounds]
    rw [List.set_eq_take_append_cons_drop, if_pos (by simp; omega)]
    simp
  rw [he] at hp
  exact hp
/-- The block of an own row has its type. -/
theorem row_tag {α : Type} {R : Rec α} {e e' : TypeId} {base : Nat} {O : List α} {v : Value} {w : World} (h : R.row e base O v w) (hne : e ≠ e') : ∀ g, v.ownBlock = some g → ∀ cur : Array Value, w.heap[g]? ≠ some (Obj.cells cur e' (0, 0)) := by
  intro g hg cur hc
  obtain ⟨_, _, ⟨rfl, _⟩ | ⟨g', cap, cur', rfl, _, hb, _⟩⟩ := h
  · cases hg
  · simp only [Value.ownBlock, Option.some.injEq] at hg
    subst hg
    rw [hb] at hc
    injection hc with h1
    injection h1 with _ h2
    exact hne h2
theorem row_block {α : Type} {R : Rec α} {e : TypeId} {base : Nat} {O : List α} {v : Value} {w : World} (h : R.row e base O v w) : ∀ g, v.ownBlock = some g → base ≤ g ∧ ∃ cur, w.heap[g]? = some (Obj.cells cur e (0, 0)) := by
  intro g hg
  obtain ⟨_, _, ⟨rfl, _⟩ | ⟨g', cap, cur', rfl, hb, hh, _⟩⟩ := h
  · cases hg
  · simp only [Value.ownBlock, Option.some.injEq] at hg
    subst hg
    exact ⟨hb, cur', hh⟩

/-- An append's row lies where it lay, or behind all. -/
theorem append_fresh {P : Program} (w : World) (base : Nat) (t ty e : TypeId) (i : TypeInfo) (z : Value) (size bytes : Nat) (ht : P.underlying t = some (.slice e)) (hi : P.info? e = some i) (hz : i.zero = some z)
    (hsize : i.size = size) (hby : i.bytes = bytes)
    (v : Value) (n : Nat) (xs : List Value) (hown : w.ownsRow base e size v n xs)
    (a : Addr) (m c : Nat) (news : List Value) (hl : news.length = m * size) (hnews : ∀ j u, news[j]? = some u → w.cell? (a.add j) = some u) (h1 : ∀ u ∈ news, u.oneCell' = true)
    (h63 : n + m ≤ maxLen) (hbytes : (n + m) * bytes ≤ 140737488355328) (hm : 0 < m) {v' : Value} {w' : World}
    (hrun : (Builtin.append_ #[t, t] ty #[v, .slice (some a) m c]).run P w = .ok v' w') : v'.ownBlock = v.ownBlock ∨ v'.ownBlock = some w.heap.size := by
  subst hsize
  subst hby
  have hsmall : n + m ≤ 9223372036854775807 := by simp only [maxLen] at h63; omega
  rcases hown.2 with ⟨rfl, rfl⟩ | ⟨g', cap, cur, rfl, hbg, hgg, hnc, hcm, hcs, htake⟩
  · have hr := run_append_nil (P := P) w t ty e i z ht hi hz a m c news hl hnews (by omega) (by omega) (by have hb := hbytes; simp only [Nat.zero_add] at hb; omega)
    rw [hr] at hrun
    cases hrun
    exact .inr rfl
  · by_cases hroom : n + m ≤ cap
    · have hfit : n * i.size + news.length ≤ cur.size := by rw [hl, hcs, ← Nat.add_mul]; exact Nat.mul_le_mul_right _ hroom
      have hr := run_append_room (P := P) w t ty e i ht hi g' n cap cur hgg a m c news hl hnews h1 hroom hfit
      rw [hr] at hrun
      cases hrun
      exact .inl rfl
    · have holds : ∀ j u, xs[j]? = some u → w.cell? ((⟨g', 0, none⟩ : Addr).add j) = some u := hown.cells (g := g') rfl
      have hr := run_append_grow (P := P) w t ty e i z ht hi hz ⟨g', 0, none⟩ n cap xs hown.1 holds a m c news hl hnews (by omega) (by omega) (growslice_fits (by omega) hbytes)
      rw [hr] at hrun
      cases hrun
      exact .inr rfl
/-- append(s, x...), and where the row lies then. -/
theorem wpList_appF {α : Type} {R : Rec α} {P : Program} {t e : TypeId} {bytes : Nat} (hT : R.Ty P t e bytes) {w : World} {ops : Array Oper} {rest : List Oper} {o : Oper} {a : Act} {Q : Exit → Act → World → Prop} (hgd : o.guard = none) (s x : Operand)
    (ho : o.op = .call { callee := .builtin .append, args := #[s, x], argTypes := #[t, t] })
    (base : Nat) (v : Value) (O A O' : List α) (hO' : O' = O ++ A) (hs : a.eval s = v) (hown : R.row e base O v w)
    (ad : Addr) (cap : Nat) (hx : a.eval x = .slice (some ad) A.length cap) (hA : R.In w (some ad) A) (hA0 : 0 < A.length) (hlen : O.length + A.length ≤ 100000000) (hbase : base ≤ w.heap.size)
    (h : ∀ v' w', R.row e base O' v' w' → w.grownBy w' v.ownBlock → Below base w w' → (v'.ownBlock = v.ownBlock ∨ v'.ownBlock = some w.heap.size) → wpList P ops Q rest (a.put o.dst v') w') : wpList P ops Q (o :: rest) a w := by
  subst hO'
  obtain ⟨i, z, hi, hz0, hz1, hz2, hz3⟩ := hT.info
  have hall : ∀ y ∈ O ++ A, R.ok y := fun y hy => (List.mem_append.1 hy).elim (hown.1 y) (hA.1 y)
  have hc : ∀ j u, (R.cells A)[j]? = some u → w.cell? (ad.add j) = some u := by
    rcases hA.2 with rfl | ⟨b, off, he, _, hc⟩
    · intro j u hj; simp [Rec.cells] at hj
    · cases he
      exact Rec.In.cells hA.1 hc
  have hb : (O.length + A.length) * bytes ≤ 140737488355328 := Nat.le_trans (Nat.mul_le_mul hlen hT.b) (by decide)
  obtain ⟨v', w', hr, h2, h3, h4⟩ := run_append_own (P := P) w base t o.type e i z R.sz bytes hT.u hi hz0 hz1 hz2 hz3 R.pos v O.length (R.cells O) hown.2 ad A.length cap (R.cells A) (R.cells_length A hA.1) hc (R.cells_one A hA.1) (by unfold maxLen; omega) hb hbase
  have hk := append_fresh (P := P) w base t o.type e i z R.sz bytes hT.u hi hz0 hz1 hz2 v O.length (R.cells O) hown.2 ad A.length cap (R.cells A) (R.cells_length A hA.1) hc (R.cells_one A hA.1) (by unfold maxLen; omega) hb hA0 hr
  refine wpList_plain hgd fun _ hK => ?_
  unfold Oper.wp execOp
  simp only [ho, resolve, invoke, builtin, Sem.run_bind, Sem.run_pure, Result.andThen_ok, List.map_toArray, List.map_cons, List.map_nil, hs, hx, hr]
  refine hK _ _ (h v' w' ⟨hall, by rw [List.length_append, R.cells_append]; exact h2⟩ h3 ((Below.refl _ _).grown h3 hbase (fun k hk => ?_)) hk)
  obtain ⟨_, _, ⟨rfl, _⟩ | ⟨g, cap', cur, rfl, hg, _⟩⟩ := hown
  · cases hk
  · simp only [Value.ownBlock, Option.some.injEq] at hk; omega
/-- A row whose block is kept. -/
theorem row_same {α : Type} {R : Rec α} {e : TypeId} {base : Nat} {O : List α} {v : Value} {w w' : World} (h : R.row e base O v w) (hk : ∀ g, v.ownBlock = some g → w'.heap[g]? = w.heap[g]?) : R.row e base O v w' := by
  obtain ⟨hok, hl, h | ⟨g, cap, cur, rfl, hg, hb, hc, hm, hs, ht⟩⟩ := h
  · exact ⟨hok, hl, .inl h⟩
  · exact ⟨hok, hl, .inr ⟨g, cap, cur, rfl, hg, (hk g rfl).trans hb, hc, hm, hs, ht⟩⟩
end Go.Proofs.Ytcgioboiebanpaa
