/- Rows of records: values of a fixed number of cells, one behind the other: what a slice of them holds, append, make, stores. For any program. -/
import Derived.WalkKit
import Derived.Lib.Hide
import Derived.Lib.Builder
import Derived.Laws.AppendOwn
import Derived.Laws.AppendOwnNone
import Derived.Laws.MakeOwn
import Derived.Laws.Tables
import Derived.Great.BuildSlice
import Derived.Deep.QuietTactic
import Derived.BigQuiet
import Derived.ProofKit
import Derived.OpenShut
import Derived.ChangeArms
import Derived.ChangeSlices
import Derived.Deep.Slices
import Derived.Test.YtcgioboiebanpaaHk
import Derived.Test.YtcgioboiebanpaaJ
namespace Go.Proofs.Ytcgioboiebanpaa
open Go.RowKit Go.WideShapes Go.ChangeShapes Go.ChangeMaps Go.Deep
set_option linter.unusedVariables false

theorem fits_of_row {w : World} {b off n : Nat} {cs : List Value} (hn : 0 < n) (h : w.cells? 0 ⟨b, off, none⟩ n = some cs) :
    fits w ⟨b, off, none⟩ n ∧ (aggAt w ⟨b, off, none⟩ n).toList = cs := by
  obtain ⟨_, hlen, hc⟩ := World.cells?_some h
  have hadd : ∀ j, (⟨b, off, none⟩ : Addr).add j = ⟨b, off + j, none⟩ := fun j => by unfold Addr.add; split <;> simp_all
  have hl := hc (n - 1) (by omega)
  rw [hadd] at hl
  have hf : fits w ⟨b, off, none⟩ n := by
    have hx : ∃ v, w.cell? ⟨b, off + (n - 1), none⟩ = some v := by
      refine ⟨cs[n - 1]'(by omega), ?_⟩
      rw [hl]; simp
    obtain ⟨v, hv⟩ := hx
    unfold World.cell? at hv
    split at hv
    · rename_i c t fr hh
      simp at hv
      have := (Array.getElem?_eq_some_iff.1 hv).1
      exact ⟨rfl, c, t, fr, hh, by simp; omega⟩
    · cases hv
  refine ⟨hf, ?_⟩
  apply List.ext_getElem?
  intro j
  by_cases hj : j < n
  · have h1 := aggAt_get hf hj
    have h2 := hc j hj
    rw [hadd, h1] at h2
    simpa using h2
  · rw [List.getElem?_eq_none (by rw [Array.length_toList, aggAt_size hf]; omega), List.getElem?_eq_none (by omega)]

/-- n cells lie there, and may be written. -/
def fitsW (w : World) (a : Addr) (n : Nat) : Prop := a.spot = none ∧ ∃ c e, w.heap[a.block]? = some (.cells c e (0, 0)) ∧ a.off + n ≤ c.size
/-- The world with these cells put there. -/
def putC (w : World) (a : Addr) (c : Array Value) : World :=
  match w.heap[a.block]? with
  | some (.cells cur _ _) => w.setRow a.block (cur.toList.take a.off ++ c.toList ++ cur.toList.drop (a.off + c.size)).toArray
  | _ => w

theorem run_storeCells_off {P : Program} (g : Nat) (t : TypeId) (o : Nat) : ∀ (vs : List Value) (i : Nat) (cur : Array Value) (w : World), w.heap[g]? = some (.cells cur t (0, 0)) → o + i + vs.length ≤ cur.size → (∀ v ∈ vs, v.oneCell' = true) →
    (storeCells ⟨g, o, none⟩ vs i).run P w = .ok () (w.setRow g (cur.toList.take (o + i) ++ vs ++ cur.toList.drop (o + i + vs.length)).toArray)
  | [], i, cur, w, hg, hl, _ => by
    have hlt : g < w.heap.size := (Array.getElem?_eq_some_iff.1 hg).1
    have hv : w.heap[g] = .cells cur t (0, 0) := (Array.getElem?_eq_some_iff.1 hg).2
    simp only [storeCells, List.append_nil, List.length_nil, Nat.add_zero, List.take_append_drop, Array.toArray_toList]
    show Result.ok () w = _
    congr 1
    unfold World.setRow
    cases w with
    | mk heap tape drawn os output =>
      congr 1
      apply Array.ext
      · simp
      · intro k h1 h2
        simp only [Array.getElem_modify]
        split
        · rename_i hk; subst hk; simp at hv; simp [hv]
        · rfl
  | v :: rest, i, cur, w, hg, hl, h1 => by
    simp only [List.length_cons] at hl
    have hi : o + i < cur.size := by omega
    have hadd : (⟨g, o, none⟩ : Addr).add i = ⟨g, o + i, none⟩ := by unfold Addr.add; split <;> simp_all
    have hcell : w.cell? ⟨g, o + i, none⟩ = some cur[o + i] := by simp [World.cell?, hg, hi]
    have hfro : w.frozen? ⟨g, o + i, none⟩ = false := by simp [World.frozen?, hg]
    have hst : (store ((⟨g, o, none⟩ : Addr).add i) v).run P w = .ok () (w.setRow g (cur.setIfInBounds (o + i) v)) := by
      rw [hadd, run_store P w _ v _ (h1 v (by simp)), hcell]
      simp [hfro, setCell_eq_setRow w g (o + i) cur t (0, 0) v hg]
    have ih := run_storeCells_off (P := P) g t o rest (i + 1) (cur.setIfInBounds (o + i) v) (w.setRow g (cur.setIfInBounds (o + i) v)) (setRow_heap w g cur _ t _ hg) (by simp; omega) (fun x hx => h1 x (by simp [hx]))
    simp only [storeCells, Sem.run_bind, hst, Result.andThen_ok, ih, setRow_setRow]
    congr 3
    simp only [Array.toList_setIfInBounds, List.length_cons]
    have e1 : (cur.toList.set (o + i) v).take (o + (i + 1)) = cur.toList.take (o + i) ++ [v] := by
      rw [show o + (i + 1) = o + i + 1 by omega, List.take_succ_eq_append_getElem (by simp; omega)]
      simp [List.take_set_of_le]
    have e2 : (cur.toList.set (o + i) v).drop (o + (i + 1) + rest.length) = cur.toList.drop (o + i + (rest.length + 1)) := by
      rw [List.drop_set, if_pos (by omega)]
      congr 1; omega
    rw [e1, e2]
    simp

theorem run_storeVar_off {P : Program} (w : World) (a : Addr) (ty : TypeId) (c : Array Value) (hf : fitsW w a c.size) (hi : (P.info? ty).map (·.size) = some c.size) (h1 : c.all (·.oneCell') = true) :
    (storeVar ty a (.agg c)).run P w = .ok () (putC w a c) := by
  obtain ⟨hs, cur, e, hh, hl⟩ := hf
  obtain ⟨g, o, s⟩ := a
  simp only at hs hh hl
  subst hs
  have := run_storeCells_off (P := P) g e o c.toList 0 cur w hh (by simp; omega) (fun v hv => (Array.all_eq_true_iff_forall_mem.1 h1) v (by simpa using hv))
  cases hq : P.info? ty with
  | none => simp [hq] at hi
  | some i =>
    have hsz : c.size = i.size := by simp [hq] at hi; omega
    simp [storeVar, Value.cells, Sem.run_bind, sizeOf, typeInfo, hq, hsz, this, putC, hh]

/-- A kind of records. -/
structure Rec (α : Type) where
  enc : α → List Value
  sz : Nat
  ok : α → Prop
  pos : 0 < sz
  len : ∀ x, ok x → (enc x).length = sz
  one : ∀ x, ok x → ∀ u ∈ enc x, u.oneCell' = true

namespace Rec
variable {α : Type} (R : Rec α)

def cells (xs : List α) : List Value := xs.flatMap R.enc
theorem cells_nil : R.cells [] = [] := rfl
theorem cells_cons (x : α) (xs : List α) : R.cells (x :: xs) = R.enc x ++ R.cells xs := by simp [cells]
theorem cells_append (xs ys : List α) : R.cells (xs ++ ys) = R.cells xs ++ R.cells ys := by simp [cells]
theorem cells_length : ∀ xs : List α, (∀ x ∈ xs, R.ok x) → (R.cells xs).length = xs.length * R.sz
  | [], _ => by simp [cells]
  | x :: xs, h => by
    rw [cells_cons, List.length_append, cells_length xs (fun y hy => h y (by simp [hy])), R.len x (h x (by simp)), List.length_cons, Nat.add_mul]; omega
theorem cells_at : ∀ (xs : List α) (i : Nat) (x : α), (∀ y ∈ xs, R.ok y) → xs[i]? = some x → ((R.cells xs).drop (i * R.sz)).take R.sz = R.enc x
  | [], i, x, _, h => by simp at h
  | y :: xs, 0, x, h, hx => by
    simp at hx; subst hx
    have hl := R.len y (h y (by simp))
    rw [cells_cons]; simp [hl]
  | y :: xs, i + 1, x, h, hx => by
    have hl := R.len y (h y (by simp))
    rw [cells_cons, List.drop_append, hl, show (i + 1) * R.sz - R.sz = i * R.sz by rw [Nat.add_mul]; omega, List.drop_of_length_le (by rw [hl, Nat.add_mul]; omega), List.nil_append]
    exact cells_at xs i x (fun z hz => h z (by simp [hz])) (by simpa using hx)
theorem cells_one (xs : List α) (h : ∀ x ∈ xs, R.ok x) : ∀ u ∈ R.cells xs, u.oneCell' = true := by
  intro u hu
  obtain ⟨x, hx, hu⟩ := List.mem_flatMap.1 hu
  exact R.one x (h x hx) u hu

/-- One record lies there. -/
def At (w : World) (a : Addr) (x : α) : Prop := fits w a R.sz ∧ (aggAt w a R.sz) = (R.enc x).toArray
theorem At.below {R : Rec α} {w w' : World} {a : Addr} {x : α} (h : R.At w a x) (hb : Below w.heap.size w w') : R.At w' a x :=
  ⟨fits_of_block (hb.block _ h.1.lt) h.1, (aggAt_of_block (hb.block _ h.1.lt)).trans h.2⟩

/-- The records of a slice. -/
def In (w : World) (a : Option Addr) (xs : List α) : Prop := (∀ x ∈ xs, R.ok x) ∧ (xs = [] ∨ ∃ b off, a = some ⟨b, off, none⟩ ∧ b < w.heap.size ∧ ∀ i x, xs[i]? = some x → R.At w ⟨b, off + i * R.sz, none⟩ x)
variable {R}
theorem In.below {w w' : World} {a : Option Addr} {xs : List α} (h : R.In w a xs) (hb : Below w.heap.size w w') : R.In w' a xs := by
  refine ⟨h.1, ?_⟩
  rcases h.2 with h | ⟨b, off, ha, hlt, hc⟩
  · exact .inl h
  · exact .inr ⟨b, off, ha, Nat.lt_of_lt_of_le hlt hb.size, fun i x hx => (hc i x hx).below hb⟩
theorem In.take {w : World} {b off : Nat} {xs : List α} (k : Nat) (h : R.In w (some ⟨b, off, none⟩) xs) : R.In w (some ⟨b, off, none⟩) (xs.take k) := by
  refine ⟨fun x hx => h.1 x (List.mem_of_mem_take hx), ?_⟩
  rcases h.2 with rfl | ⟨b', off', he, hlt, hc⟩
  · exact .inl (by simp)
  · cases he
    refine .inr ⟨b, off, rfl, hlt, fun i x hx => hc i x ?_⟩
    rw [List.getElem?_take] at hx
    split at hx
    · exact hx
    · cases hx
theorem In.drop {w : World} {b off : Nat} {xs : List α} (k : Nat) (h : R.In w (some ⟨b, off, none⟩) xs) : R.In w (some ⟨b, off + k * R.sz, none⟩) (xs.drop k) := by
  refine ⟨fun x hx => h.1 x (List.mem_of_mem_drop hx), ?_⟩
  rcases h.2 with rfl | ⟨b', off', he, hlt, hc⟩
  · exact .inl (by simp)
  · cases he
    refine .inr ⟨b, off + k * R.sz, rfl, hlt, fun i x hx => ?_⟩
    rw [List.getElem?_drop] at hx
    have := hc (k + i) x hx
    rwa [show off + (k + i) * R.sz = off + k * R.sz + i * R.sz by rw [Nat.add_mul]; omega] at this

theorem In.cells {w : World} {b off : Nat} {xs : List α} (h32 : ∀ x ∈ xs, R.ok x) (h : ∀ i x, xs[i]? = some x → R.At w ⟨b, off + i * R.sz, none⟩ x) :
    ∀ j u, (R.cells xs)[j]? = some u → w.cell? ((⟨b, off, none⟩ : Addr).add j) = some u := by
  intro j u hj
  have hjl : j < (R.cells xs).length := (List.getElem?_eq_some_iff.1 hj).1
  rw [R.cells_length xs h32] at hjl
  have hp := R.pos
  have hi : j / R.sz < xs.length := (Nat.div_lt_iff_lt_mul hp).2 hjl
  have hx : xs[j / R.sz]? = some (xs[j / R.sz]'hi) := by simp [hi]
  obtain ⟨hf, ha⟩ := h (j / R.sz) _ hx
  have hdm : j / R.sz * R.sz + j % R.sz = j := by rw [Nat.mul_comm]; exact Nat.div_add_mod j R.sz
  have hmod : j % R.sz < R.sz := Nat.mod_lt _ hp
  have hadd : (⟨b, off, none⟩ : Addr).add j = ⟨b, (off + j / R.sz * R.sz) + j % R.sz, none⟩ := by
    rw [show off + j / R.sz * R.sz + j % R.sz = off + j by omega]
    unfold Addr.add; split <;> simp_all
  have hg := aggAt_get (j := j % R.sz) hf hmod
  rw [hadd, hg, ha]
  have h3 := R.cells_at xs (j / R.sz) _ h32 hx
  have h4 : (((R.cells xs).drop (j / R.sz * R.sz)).take R.sz)[j % R.sz]? = some u := by
    rw [List.getElem?_take, if_pos hmod, List.getElem?_drop, hdm]; exact hj
  rw [h3] at h4
  simpa using h4

variable (R)
/-- A row of its own that holds these records. -/
def row (e : TypeId) (base : Nat) (xs : List α) : Value → World → Prop := fun v w => (∀ x ∈ xs, R.ok x) ∧ w.ownsRow base e R.sz v xs.length (R.cells xs)
/-- What stands in a slice, with what bounds it. -/
def Sl (W : World) (v : Value) (xs : List α) : Prop := ∃ a c, v = .slice a xs.length c ∧ xs.length ≤ c ∧ c ≤ maxLen ∧ R.In W a xs ∧ (a = none → xs = [] ∧ c = 0)
variable {R}

theorem owns_below {w w' : World} {base : Nat} {e : TypeId} {size : Nat} {v : Value} {n : Nat} {xs : List Value} (h : w.ownsRow base e size v n xs) (hb : Below w.heap.size w w') : w'.ownsRow base e size v n xs := by
  obtain ⟨hl, ⟨rfl, hn⟩ | ⟨g, cap, cur, rfl, hg, hh, hc⟩⟩ := h
  · exact ⟨hl, .inl ⟨rfl, hn⟩⟩
  · exact ⟨hl, .inr ⟨g, cap, cur, rfl, hg, (hb.block g (Array.getElem?_eq_some_iff.1 hh).1).trans hh, hc⟩⟩
theorem owns_base {w : World} {b b' : Nat} {e : TypeId} {size : Nat} {v : Value} {n : Nat} {xs : List Value} (h : w.ownsRow b e size v n xs) (hb : b' ≤ b) : w.ownsRow b' e size v n xs := by
  obtain ⟨hl, ⟨rfl, hn⟩ | ⟨g, cap, cur, rfl, hg, hh, hc⟩⟩ := h
  · exact ⟨hl, .inl ⟨rfl, hn⟩⟩
  · exact ⟨hl, .inr ⟨g, cap, cur, rfl, by omega, hh, hc⟩⟩
theorem row.below {e : TypeId} {base : Nat} {xs : List α} {v : Value} {w w' : World} (h : R.row e base xs v w) (hb : Below w.heap.size w w') : R.row e base xs v w' := ⟨h.1, owns_below h.2 hb⟩
theorem row_st (e : TypeId) (base : Nat) (xs : List α) : ∀ v w w', R.row e base xs v w → Below w.heap.size w w' → R.row e base xs v w' := fun _ _ _ h hb => h.below hb
theorem row.base {e : TypeId} {b b' : Nat} {xs : List α} {v : Value} {w : World} (h : R.row e b xs v w) (hb : b' ≤ b) : R.row e b' xs v w := ⟨h.1, owns_base h.2 hb⟩
theorem row.nil {e : TypeId} {base : Nat} {w : World} : R.row e base [] (.slice none 0 0) w := ⟨by simp, by simp [Rec.cells], .inl ⟨rfl, rfl⟩⟩
theorem row.empty {e : TypeId} {w : World} : R.row e w.heap.size [] (.slice (some ⟨w.heap.size, 0, none⟩) 0 0) (w.alloc (.cells #[] e)) :=
  ⟨by simp, by simp [Rec.cells], .inr ⟨w.heap.size, 0, #[], rfl, Nat.le_refl _, (MapKept.heap_alloc w _).1, by simp, by unfold maxLen; omega, by simp, by simp [Rec.cells]⟩⟩

theorem row.sl {e : TypeId} {base : Nat} {xs : List α} {v : Value} {w : World} (h : R.row e base xs v w) : R.Sl w v xs := by
  obtain ⟨h32, hl, ⟨rfl, hn⟩ | ⟨g, cap, cur, rfl, hg, hh, hc, hm, hs, ht⟩⟩ := h
  · have : xs = [] := List.length_eq_zero_iff.1 hn
    subst this
    exact ⟨none, 0, rfl, by simp, by unfold maxLen; omega, ⟨by simp, .inl rfl⟩, fun _ => ⟨rfl, rfl⟩⟩
  · refine ⟨_, cap, rfl, hc, hm, ⟨h32, .inr ⟨g, 0, rfl, (Array.getElem?_eq_some_iff.1 hh).1, fun i x hx => ?_⟩⟩, fun e => by cases e⟩
    have hi : i < xs.length := (List.getElem?_eq_some_iff.1 hx).1
    have hii : i * R.sz + R.sz ≤ xs.length * R.sz := by rw [← Nat.succ_mul]; exact Nat.mul_le_mul_right _ hi
    have hcc : xs.length * R.sz ≤ cap * R.sz := Nat.mul_le_mul_right _ hc
    have hfit : 0 + i * R.sz + R.sz ≤ cur.size := by rw [hs]; omega
    refine ⟨⟨rfl, cur, e, (0, 0), hh, hfit⟩, ?_⟩
    unfold aggAt
    rw [show w.heap[(⟨g, 0 + i * R.sz, none⟩ : Addr).block]? = some (.cells cur e (0, 0)) from hh]
    have hcur := R.cells_at xs i x h32 hx
    rw [← ht] at hcur
    apply Array.ext'
    simp only [Array.toList_extract, List.extract_eq_take_drop]
    rw [← hcur, List.drop_take, List.take_take]
    rw [show 0 + i * R.sz + R.sz - (0 + i * R.sz) = R.sz by omega, Nat.zero_add, Nat.min_eq_left (by omega)]
theorem Sl.below {w w' : World} {v : Value} {xs : List α} (h : R.Sl w v xs) (hb : Below w.heap.size w w') : R.Sl w' v xs := by
  obtain ⟨a, c, h0, h1, h2, h3, h4⟩ := h
  exact ⟨a, c, h0, h1, h2, h3.below hb, h4⟩
theorem sl_st (xs : List α) : ∀ v w w', (fun v w => R.Sl w v xs) v w → Below w.heap.size w w' → (fun v w => R.Sl w v xs) v w' := fun _ _ _ h hb => h.below hb
theorem Sl.cons {W : World} {v : Value} {x : α} {xs : List α} (h : R.Sl W v (x :: xs)) : ∃ b off c, v = .slice (some ⟨b, off, none⟩) (xs.length + 1) (c + 1) ∧ xs.length ≤ c ∧ c + 1 ≤ maxLen ∧ R.ok x ∧ b < W.heap.size ∧
    R.At W ⟨b, off, none⟩ x ∧ R.Sl W (.slice (some ⟨b, off + R.sz, none⟩) xs.length c) xs := by
  obtain ⟨a, c, rfl, h1, h2, h3, h4⟩ := h
  rcases h3.2 with h0 | ⟨b, off, rfl, hlt, hc⟩
  · cases h0
  · obtain ⟨c, rfl⟩ : ∃ c', c = c' + 1 := ⟨c - 1, by simp at h1; omega⟩
    have hd := h3.drop 1
    simp only [List.drop_succ_cons, List.drop_zero, Nat.one_mul] at hd
    refine ⟨b, off, c, rfl, by simpa using h1, h2, h3.1 _ (by simp), hlt, ?_, _, c, rfl, by simpa using h1, by omega, hd, fun e => by cases e⟩
    have := hc 0 x (by simp)
    simpa using this
theorem Sl.zero {W : World} {b o b' o' l c : Nat} {A : List α} (h : R.Sl W (.slice (some ⟨b, o, none⟩) l c) A) (hc : c = 0) : R.Sl W (.slice (some ⟨b', o', none⟩) l 0) A := by
  subst hc
  obtain ⟨a, c, he, h1, h2, h3, h4⟩ := h
  injection he with e1 e2 e3
  subst e3 e2
  have : A = [] := List.length_eq_zero_iff.1 (by omega)
  subst this
  exact ⟨_, 0, rfl, by simp, by unfold maxLen; omega, ⟨by simp, .inl rfl⟩, fun e => by cases e⟩

/-- What the program says of the type and of slices of it. -/
structure Ty (R : Rec α) (P : Program) (t e : TypeId) (bytes : Nat) : Prop where
  u : P.underlying t = some (.slice e)
  i : (P.info? e).map (fun i => (i.size, i.bytes)) = some (R.sz, bytes)
  z : ((P.info? e).bind (·.zero)).map (·.cells.size) = some R.sz
  b : bytes ≤ 1024
theorem Ty.info {P : Program} {t e : TypeId} {bytes : Nat} (h : Ty R P t e bytes) : ∃ i z, P.info? e = some i ∧ i.zero = some z ∧ i.size = R.sz ∧ i.bytes = bytes ∧ z.cells.size = R.sz := by
  have hi := h.i
  have hz := h.z
  cases hq : P.info? e with
  | none => rw [hq] at hi; cases hi
  | some i =>
    rw [hq] at hi hz
    simp only [Option.map_some, Option.some.injEq, Prod.mk.injEq] at hi
    simp only [Option.bind_some] at hz
    cases hzz : i.zero with
    | none => rw [hzz] at hz; cases hz
    | some z => rw [hzz] at hz; exact ⟨i, z, rfl, hzz, hi.1, hi.2, by simpa using hz⟩

/-- append(s, x...). -/
theorem wpList_app {P : Program} {t e : TypeId} {bytes : Nat} (hT : Ty R P t e bytes) {w : World} {ops : Array Oper} {rest : List Oper} {o : Oper} {a : Act} {Q : Exit → Act → World → Prop} (hgd : o.guard = none) (s x : Operand)
    (ho : o.op = .call { callee := .builtin .append, args := #[s, x], argTypes := #[t, t] })
    (base : Nat) (v : Value) (O A O' : List α) (hO' : O' = O ++ A) (hs : a.eval s = v) (hown : R.row e base O v w)
    (ad : Option Addr) (cap : Nat) (hx : a.eval x = .slice ad A.length cap) (hA : R.In w ad A) (hn : ad = none → A = [] ∧ cap = 0) (hlen : O.length + A.length ≤ 100000000) (hbase : base ≤ w.heap.size)
    (h : ∀ v' w', R.row e base O' v' w' → w.grownBy w' v.ownBlock → Below base w w' → wpList P ops Q rest (a.put o.dst v') w') : wpList P ops Q (o :: rest) a w := by
  subst hO'
  obtain ⟨i, z, hi, hz0, hz1, hz2, hz3⟩ := hT.info
  have hall : ∀ y ∈ O ++ A, R.ok y := fun y hy => (List.mem_append.1 hy).elim (hown.1 y) (hA.1 y)
  cases ad with
  | none =>
    obtain ⟨rfl, rfl⟩ := hn rfl
    refine wpList_append_own_none hgd s x t ho base e i R.sz hT.u hi v O.length (R.cells O) hs hown.2 hx ?_
    exact h v w (by simpa using hown) ⟨rfl, rfl, rfl, Nat.le_refl _, fun _ _ _ => rfl⟩ (Below.refl _ _)
  | some ad =>
    have hc : ∀ j u, (R.cells A)[j]? = some u → w.cell? (ad.add j) = some u := by
      rcases hA.2 with rfl | ⟨b, off, he, _, hc⟩
      · intro j u hj; simp [Rec.cells] at hj
      · cases he
        exact In.cells hA.1 hc
    have hb : (O.length + A.length) * bytes ≤ 140737488355328 := Nat.le_trans (Nat.mul_le_mul hlen hT.b) (by decide)
    refine wpList_append_own w hgd s x t ho base e i z R.sz bytes hT.u hi hz0 hz1 hz2 hz3 R.pos v O.length (R.cells O) hs hown.2 ad A.length cap (R.cells A) hx (R.cells_length A hA.1) hc (R.cells_one A hA.1) (by unfold maxLen; omega) hb hbase ?_
    intro v' w' h1 h2 _
    refine h v' w' ⟨hall, by rw [List.length_append, R.cells_append]; exact h1⟩ h2 ((Below.refl _ _).grown h2 hbase (fun k hk => ?_))
    obtain ⟨_, _, ⟨rfl, _⟩ | ⟨g, cap', cur, rfl, hg, _⟩⟩ := hown
    · cases hk
    · simp only [Value.ownBlock, Option.some.injEq] at hk; omega

/-- make([]T, 0, n). -/
theorem run_mk {P : Program} {t e : TypeId} {bytes : Nat} (hT : Ty R P t e bytes) (w : World) (n : Nat) (hn : n ≤ 100000000) : ∃ v w', (Instr.makeSlice t (.int .i64 0) (.int .i64 (n : Int))).run P w = .ok v w' ∧
    R.row e w.heap.size [] v w' ∧ Below w.heap.size w w' := by
  obtain ⟨i, z, hi, hz0, hz1, hz2, hz3⟩ := hT.info
  have hb : n * bytes ≤ 281474976710656 := Nat.le_trans (Nat.mul_le_mul hn hT.b) (by decide)
  obtain ⟨w', h1, h2, h3⟩ := run_make_own (P := P) w w.heap.size t e i z R.sz hT.u hi hz0 hz1 .i64 .i64 n (by rw [hz2, Nat.mul_comm]; exact hb) (by unfold maxLen; omega) (Nat.le_refl _)
  exact ⟨_, w', h1, ⟨by simp, h2⟩, (Below.refl _ _).grown h3 (Nat.le_refl _) (fun k hk => by cases hk)⟩

theorem cells_set : ∀ (O : List α) (k : Nat) (x : α), (∀ z ∈ O, R.ok z) → R.ok x → k < O.length → R.cells (O.set k x) = (R.cells O).take (k * R.sz) ++ R.enc x ++ (R.cells O).drop (k * R.sz + R.sz)
  | [], k, x, _, _, h => by simp at h
  | z :: O, 0, x, h, hx, _ => by
    have hl := R.len z (h z (by simp))
    rw [List.set_cons_zero, cells_cons, cells_cons, Nat.zero_mul, List.take_zero, List.nil_append, Nat.zero_add, List.drop_append, hl, List.drop_of_length_le (by omega)]
    simp
  | z :: O, k + 1, x, h, hx, hk => by
    have hl := R.len z (h z (by simp))
    have e1 : (k + 1) * R.sz = k * R.sz + R.sz := by rw [Nat.add_mul]; omega
    rw [List.set_cons_succ, cells_cons, cells_cons, cells_set O k x (fun y hy => h y (by simp [hy])) hx (by simpa using hk), List.take_append, List.drop_append, List.take_of_length_le (show (R.enc z).length ≤ (k + 1) * R.sz by rw [hl]; omega), List.drop_of_length_le (show (R.enc z).length ≤ (k + 1) * R.sz + R.sz by rw [hl]; omega), hl,
      show (k + 1) * R.sz - R.sz = k * R.sz by omega, show (k + 1) * R.sz + R.sz - R.sz = k * R.sz + R.sz by omega]
    simp

theorem row.fitsW {e : TypeId} {base g len cap k : Nat} {O : List α} {w : World} (hk : k < O.length) (h : R.row e base O (.slice (some ⟨g, 0, none⟩) len cap) w) : fitsW w ⟨g, k * R.sz, none⟩ R.sz := by
  obtain ⟨_, hl, ⟨he, _⟩ | ⟨g', cap', cur, he, hg, hh, hc, hm, hs, ht⟩⟩ := h
  · cases he
  · cases he
    have hii : k * R.sz + R.sz ≤ O.length * R.sz := by rw [← Nat.succ_mul]; exact Nat.mul_le_mul_right _ hk
    have hcc : O.length * R.sz ≤ cap * R.sz := Nat.mul_le_mul_right _ hc
    exact ⟨rfl, cur, e, hh, by simp only; rw [hs]; omega⟩
/-- A record of a row is written. -/
theorem row.put {e : TypeId} {base g len cap k : Nat} {O : List α} {x : α} {w : World} (hx : R.ok x) (hk : k < O.length)
    (h : R.row e base O (.slice (some ⟨g, 0, none⟩) len cap) w) :
    R.row e base (O.set k x) (.slice (some ⟨g, 0, none⟩) len cap) (putC w ⟨g, k * R.sz, none⟩ (R.enc x).toArray) ∧ Below base w (putC w ⟨g, k * R.sz, none⟩ (R.enc x).toArray) := by
  obtain ⟨h32, hl, ⟨he, _⟩ | ⟨g', cap', cur, he, hg, hh, hc, hm, hs, ht⟩⟩ := h
  · cases he
  · cases he
    have hz : (R.enc x).toArray.size = R.sz := by simp [R.len x hx]
    have hii : k * R.sz + R.sz ≤ O.length * R.sz := by rw [← Nat.succ_mul]; exact Nat.mul_le_mul_right _ hk
    have hcc : O.length * R.sz ≤ cap * R.sz := Nat.mul_le_mul_right _ hc
    have hp : putC w ⟨g, k * R.sz, none⟩ (R.enc x).toArray = w.setRow g (cur.toList.take (k * R.sz) ++ R.enc x ++ cur.toList.drop (k * R.sz + R.sz)).toArray := by
      unfold putC; simp only [hh, hz]
    have hok : ∀ z ∈ O.set k x, R.ok z := fun z hz => by rcases List.mem_or_eq_of_mem_set hz with h | h; exact h32 z h; rw [h]; exact hx
    rw [hp]
    refine ⟨⟨hok, by rw [R.cells_length _ hok], .inr ⟨g, cap, _, by simp, hg, setRow_heap w g cur _ _ _ hh, by simpa using hc, hm, ?_, ?_⟩⟩, ⟨rfl, rfl, rfl, by simp, fun j hj => setRow_other w g j _ (by omega)⟩⟩
    · simp only [List.size_toArray, List.length_append, List.length_take, List.length_drop, Array.length_toList, R.len x hx]; omega
    · rw [cells_set O k x h32 hx hk, ← ht]
      have lb := R.len x hx
      rw [List.length_set, List.take_take, Nat.min_eq_left (by omega), List.drop_take, List.take_append, List.take_of_length_le (by simp [lb]; omega)]
      congr 2
      simp [lb]; omega
theorem row.at {e : TypeId} {base g l c : Nat} {O : List α} {k : Nat} {x : α} {w : World} (hk : O[k]? = some x) (h : R.row e base O (.slice (some ⟨g, 0, none⟩) l c) w) : R.At w ⟨g, k * R.sz, none⟩ x := by
  obtain ⟨a, cap, he, _, _, hin, _⟩ := h.sl
  cases he
  rcases hin.2 with rfl | ⟨b, off, he, _, hc⟩
  · simp at hk
  · cases he
    have := hc k x hk
    rwa [Nat.zero_add] at this
theorem row.some {e : TypeId} {base : Nat} {v : Value} {O : List α} {w : World} (h0 : O ≠ []) (h : R.row e base O v w) : ∃ g cap, v = .slice (some ⟨g, 0, none⟩) O.length cap ∧ O.length ≤ cap ∧ cap ≤ 9223372036854775807 ∧ base ≤ g ∧ g < w.heap.size := by
  obtain ⟨_, _, ⟨_, hn⟩ | ⟨g, cap, cur, rfl, hg, hh, hc, hm, hs, ht⟩⟩ := h
  · exact absurd (List.length_eq_zero_iff.1 hn) h0
  · exact ⟨g, cap, rfl, hc, by unfold maxLen at hm; omega, hg, (Array.getElem?_eq_some_iff.1 hh).1⟩

/-- A new block of records. -/
theorem In.new (w : World) (e : TypeId) (xs : List α) (hx : ∀ x ∈ xs, R.ok x) : R.In (w.alloc (.cells (R.cells xs).toArray e)) (some ⟨w.heap.size, 0, none⟩) xs := by
  refine ⟨hx, ?_⟩
  by_cases h0 : xs = []
  · exact .inl h0
  refine .inr ⟨_, 0, rfl, by simp, fun i x hi => ?_⟩
  have hh := (MapKept.heap_alloc w (.cells (R.cells xs).toArray e)).1
  have hil : i < xs.length := (List.getElem?_eq_some_iff.1 hi).1
  have hii : i * R.sz + R.sz ≤ xs.length * R.sz := by rw [← Nat.succ_mul]; exact Nat.mul_le_mul_right _ hil
  have hs : (R.cells xs).toArray.size = xs.length * R.sz := by simp [R.cells_length xs hx]
  refine ⟨⟨rfl, _, _, _, hh, by rw [hs]; simp; omega⟩, ?_⟩
  unfold aggAt
  rw [show (w.alloc (.cells (R.cells xs).toArray e)).heap[(⟨w.heap.size, 0 + i * R.sz, none⟩ : Addr).block]? = some (.cells (R.cells xs).toArray e) from hh]
  have hcur := R.cells_at xs i x hx hi
  apply Array.ext'
  simp only [Array.toList_extract, List.extract_eq_take_drop]
  rw [← hcur, show 0 + i * R.sz + R.sz - (0 + i * R.sz) = R.sz by omega, Nat.zero_add]
theorem At.new (w : World) (e : TypeId) (x : α) (hx : R.ok x) : R.At (w.alloc (.cells (R.enc x).toArray e)) ⟨w.heap.size, 0, none⟩ x :=
  ⟨fits_new w _ _ _ (by simp [R.len x hx]), aggAt_new w _ _ _ (by simp [R.len x hx])⟩
theorem In.one (w : World) (e : TypeId) (x : α) (hx : R.ok x) : R.In (w.alloc (.cells (R.enc x).toArray e)) (some ⟨w.heap.size, 0, none⟩) [x] := by
  have := In.new (R := R) w e [x] (by simpa using hx)
  simpa [Rec.cells] using this

/-- What an argument holds that is a slice of records. -/
theorem reads {H : Type} {henc : TypeId × Value → H} {P : Program} {W : World} {t e : TypeId} {v : Value} {d : DataW H} {p : List MemPlace}
    (ht : P.underlying t = Option.some (.slice e)) (hc : P.cellsOf e = R.sz)
    (hIs : ∀ fuel cs y, DataW.trod henc P W 0 (fun _ => true) true fuel e cs = Option.some y → ∃ x, R.ok x ∧ cs = R.enc x)
    (h : DataW.Trod henc P W 0 (fun _ => true) true t v d p) (hok : ∃ a len cap, v = .slice a len cap) : ∃ xs, R.Sl W v xs := by
  obtain ⟨a0, len0, cap0, rfl⟩ := hok
  obtain ⟨fuel, hf⟩ := h
  rcases open_slice ht hf with ⟨hcs, _⟩ | ⟨a, len, cap, m, n', D, Pl, hcs, _, hl, hm, hmm, _, hx⟩
  · simp [Value.cells] at hcs
    obtain ⟨rfl, rfl, rfl⟩ := hcs
    exact ⟨[], none, 0, rfl, by simp, by unfold maxLen; omega, ⟨by simp, .inl rfl⟩, fun _ => ⟨rfl, rfl⟩⟩
  · simp [Value.cells] at hcs
    obtain ⟨rfl, rfl, rfl⟩ := hcs
    simp only [if_true] at hmm
    subst hmm
    by_cases h0 : len0 = 0
    · subst h0; exact ⟨[], Option.some a, m, rfl, by simp, hm, ⟨by simp, .inl rfl⟩, fun h => by cases h⟩
    have hex : ∀ i, i < len0 → ∃ x, R.ok x ∧ W.cells? 0 (a.add (i * R.sz)) R.sz = Option.some (R.enc x) := fun i hi => by
      obtain ⟨cs', h1, h2⟩ := hx i (by omega)
      obtain ⟨x, hox, rfl⟩ := hIs _ _ _ h2
      rw [hc] at h1
      exact ⟨x, hox, h1⟩
    obtain ⟨x0, _⟩ := hex 0 (by omega)
    haveI : Inhabited α := ⟨x0⟩
    obtain ⟨V, hV⟩ := choose_lt (α := α) (n := len0) (p := fun i x => R.ok x ∧ W.cells? 0 (a.add (i * R.sz)) R.sz = Option.some (R.enc x)) hex
    obtain ⟨b, off, sp⟩ := a
    have hsp : sp = none := by
      obtain ⟨_, h1⟩ := hV 0 (by omega)
      obtain ⟨_, hlen, hcc⟩ := World.cells?_some h1
      have hp := R.pos
      have h2 := hcc 0 hp
      have h3 : (R.enc (V 0))[0]? = Option.some ((R.enc (V 0))[0]'(by omega)) := by simp
      rw [h3] at h2
      cases sp with
      | none => rfl
      | some s => simp [World.cell?, Addr.add] at h2; split at h2 <;> simp at h2
    subst hsp
    have hadd : ∀ j, (⟨b, off, none⟩ : Addr).add j = ⟨b, off + j, none⟩ := fun j => by unfold Addr.add; split <;> simp_all
    have hAt : ∀ i, i < len0 → R.At W ⟨b, off + i * R.sz, none⟩ (V i) := fun i hi => by
      obtain ⟨_, h1⟩ := hV i hi
      rw [hadd] at h1
      obtain ⟨h3, h4⟩ := fits_of_row R.pos h1
      exact ⟨h3, Array.ext' (by rw [h4])⟩
    refine ⟨(List.range len0).map V, Option.some ⟨b, off, none⟩, m, by simp, by simpa using hl, hm, ⟨fun x hx => ?_, .inr ⟨b, off, rfl, (hAt 0 (by omega)).1.lt, fun i x hx => ?_⟩⟩, fun h => by cases h⟩
    · obtain ⟨i, hi, rfl⟩ := List.mem_map.1 hx
      exact (hV i (List.mem_range.1 hi)).1
    · simp only [List.getElem?_map, Option.map_eq_some_iff] at hx
      obtain ⟨j, hj, rfl⟩ := hx
      obtain ⟨hj1, hj2⟩ := List.getElem?_eq_some_iff.1 hj
      simp at hj1 hj2
      subst hj2
      exact hAt i hj1
end Rec
end Go.Proofs.Ytcgioboiebanpaa
