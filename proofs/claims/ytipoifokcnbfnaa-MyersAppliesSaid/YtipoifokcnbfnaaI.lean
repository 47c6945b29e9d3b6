/- Records of this chapter: runes' numbers, numbers, bytes, headers, edits; blocks of a type that are kept. -/
import Derived.Test.YtipoifokcnbfnaaU
import Derived.Test.YtipoifokcnbfnaaPa
import Derived.Test.YtipoifokcnbfnaaRec
import Derived.Laws.EntriesVeiled
import Derived.Maps.OwnOps
namespace Go.Proofs.Ytipoifokcnbfnaa
open Go.RowKit
set_option linter.unusedVariables false

/-- Integers of a kind. -/
def numR (q : IntKind) : Rec Int where
  enc n := [.int q n]
  sz := 1
  ok _ := True
  pos := Nat.one_pos
  len _ _ := rfl
  one x _ u hu := by simp at hu; subst hu; rfl
theorem num_cell {q : IntKind} {w : World} {b o k : Nat} {x : Int} (h : (numR q).At w ⟨b, o + k * (numR q).sz, none⟩ x) : w.cell? ⟨b, o + k, none⟩ = some (.int q x) := by
  have h1 : (numR q).At w ⟨b, o + k, none⟩ x := by have := h; simpa [numR] using this
  have := aggAt_get (j := 0) h1.1 Nat.one_pos
  rw [h1.2] at this
  simpa [numR] using this
theorem rune22 : (numR .i32).Ty Try.prog 22 21 4 := ⟨Try.underlying22, by kernel_rfl, by kernel_rfl, by decide⟩
theorem int51 : (numR .i64).Ty Try.prog 51 3 8 := ⟨Try.underlying51, by kernel_rfl, by kernel_rfl, by decide⟩
theorem byte23 : (numR .u8).Ty Try.prog 23 5 1 := ⟨Try.underlying23, by kernel_rfl, by kernel_rfl, by decide⟩
/-- Slices. -/
def hdrR : Rec (Option Addr × Nat × Nat) where
  enc h := [.slice h.1 h.2.1 h.2.2]
  sz := 1
  ok _ := True
  pos := by decide
  len _ _ := rfl
  one x _ u hu := by simp at hu; subst hu; rfl
theorem hdr_cell {w : World} {b o k : Nat} {x : Option Addr × Nat × Nat} (h : hdrR.At w ⟨b, o + k * hdrR.sz, none⟩ x) : w.cell? ⟨b, o + k, none⟩ = some (.slice x.1 x.2.1 x.2.2) := by
  have h1 : hdrR.At w ⟨b, o + k, none⟩ x := by have := h; simpa [hdrR] using this
  have := aggAt_get (j := 0) h1.1 Nat.one_pos
  rw [h1.2] at this
  simpa [hdrR] using this
theorem hdr56 : hdrR.Ty Try.prog 56 22 24 := ⟨Try.underlying56, by kernel_rfl, by kernel_rfl, by decide⟩
theorem hdr52 : hdrR.Ty Try.prog 52 51 24 := ⟨Try.underlying52, by kernel_rfl, by kernel_rfl, by decide⟩
/-- Edits. -/
abbrev Ed := Int × Int × List UInt8
def edB (x : Ed) : Array Value := #[.int .i64 x.1, .int .i64 x.2.1, .string ⟨x.2.2.toArray⟩]
def edR : Rec Ed where
  enc x := (edB x).toList
  sz := 3
  ok _ := True
  pos := by decide
  len _ _ := rfl
  one x _ u hu := by simp [edB] at hu; rcases hu with rfl | rfl | rfl <;> rfl
theorem ed31 : edR.Ty Try.prog 31 42 32 := ⟨Try.underlying31, by kernel_rfl, by kernel_rfl, by decide⟩

theorem num_frozen {q : IntKind} {t : TypeId} {w : World} {base g l c k : Nat} {O : List Int} (hk : k < O.length) (h : (numR q).row t base O (.slice (some ⟨g, 0, none⟩) l c) w) : w.frozen? ⟨g, k, none⟩ = false := by
  obtain ⟨_, cur, e, hh, hl⟩ := h.fitsW hk
  simp only at hh
  simp [World.frozen?, hh]
theorem num_at {q : IntKind} {t : TypeId} {w : World} {base g l c k : Nat} {O : List Int} (hk : k < O.length) (h : (numR q).row t base O (.slice (some ⟨g, 0, none⟩) l c) w) : w.cell? ⟨g, k, none⟩ = some (.int q (O.getD k 0)) := by
  have hx : O[k]? = some (O.getD k 0) := by simp [List.getD_eq_getElem?_getD, hk]
  have := h.at hx
  have h2 : (numR q).At w ⟨g, 0 + k * (numR q).sz, none⟩ (O.getD k 0) := by simpa using this
  have := num_cell h2
  simpa using this
theorem num_set {q : IntKind} {t : TypeId} {w : World} {base g l c k : Nat} {O : List Int} (x : Int) (hk : k < O.length) (h : (numR q).row t base O (.slice (some ⟨g, 0, none⟩) l c) w) :
    (numR q).row t base (O.set k x) (.slice (some ⟨g, 0, none⟩) l c) (w.setCell ⟨g, k, none⟩ (.int q x)) ∧ Below base w (w.setCell ⟨g, k, none⟩ (.int q x)) := by
  obtain ⟨_, cur, e, hh, hl⟩ := h.fitsW hk
  have hp := h.put (x := x) trivial hk
  simp only [show k * (numR q).sz = k from Nat.mul_one k] at hp hh hl
  have he : putC w ⟨g, k, none⟩ ((numR q).enc x).toArray = w.setCell ⟨g, k, none⟩ (.int q x) := by
    have hl' : k + 1 ≤ cur.size := hl
    rw [setCell_eq_setRow w g k cur e (0, 0) _ hh]
    unfold putC
    simp only [hh]
    congr 1
    apply Array.ext'
    simp only [numR, List.size_toArray, List.length_cons, List.length_nil, Array.toList_setIfInBounds]
    rw [List.set_eq_take_append_cons_drop, if_pos (by simp; omega)]
    simp
  rw [he] at hp
  exact hp

/-- Every block of cells of one type is kept. -/
def KeptT (e : TypeId) (w w' : World) : Prop := ∀ (g : Nat) (cur : Array Value), w.heap[g]? = some (Obj.cells cur e (0, 0)) → w'.heap[g]? = w.heap[g]?
theorem KeptT.refl (e : TypeId) (w : World) : KeptT e w w := fun _ _ _ => rfl
theorem KeptT.trans {e : TypeId} {a b c : World} (h1 : KeptT e a b) (h2 : KeptT e b c) : KeptT e a c := fun g cur h => by
  have := h1 g cur h
  exact (h2 g cur (this.trans h)).trans this
theorem KeptT.of_below {e : TypeId} {w w' : World} (h : Below w.heap.size w w') : KeptT e w w' := fun g cur hg => h.block g (Array.getElem?_eq_some_iff.1 hg).1
theorem KeptT.grown {e e' : TypeId} {w w' : World} {row : Option Nat} (hg : w.grownBy w' row) (hne : ∀ g, row = some g → ∀ cur : Array Value, w.heap[g]? ≠ some (Obj.cells cur e (0, 0))) : KeptT e w w' := fun g cur h => by
  refine hg.block g (Array.getElem?_eq_some_iff.1 h).1 (fun he => ?_)
  exact hne g he.symm cur h
theorem KeptT.setCell {e : TypeId} (w : World) (b o : Nat) (v : Value) (hne : ∀ cur : Array Value, w.heap[b]? ≠ some (Obj.cells cur e (0, 0))) : KeptT e w (w.setCell ⟨b, o, none⟩ v) := fun g cur h => by
  have : g ≠ b := fun he => hne cur (by rw [← he]; exact h)
  exact Below.heap_setCell w ⟨b, o, none⟩ v g this
theorem row_keptT {α : Type} {R : Rec α} {e : TypeId} {base : Nat} {O : List α} {v : Value} {w w' : World} (h : R.row e base O v w) (hk : KeptT e w w') : R.row e base O v w' := by
  obtain ⟨hok, hl, h | ⟨g, cap, cur, he, hg, hb, hc, hm, hs, ht⟩⟩ := h
  · exact ⟨hok, hl, .inl h⟩
  · exact ⟨hok, hl, .inr ⟨g, cap, cur, he, hg, (hk g cur hb).trans hb, hc, hm, hs, ht⟩⟩
/-- The block of an own row has its type. -/
theorem row_tag {α : Type} {R : Rec α} {e e' : TypeId} {base : Nat} {O : List α} {v : Value} {w : World} (h : R.row e base O v w) (hne : e ≠ e') : ∀ g, v.ownBlock = some g → ∀ cur : Array Value, w.heap[g]? ≠ some (Obj.cells cur e' (0, 0)) := by
  intro g hg cur hc
  obtain ⟨_, _, ⟨rfl, _⟩ | ⟨g', cap, cur', rfl, _, hb, _⟩⟩ := h
  · cases hg
  · simp only [Value.ownBlock, Option.some.injEq] at hg
    subst hg
    rw [hb] at hc
    injection hc with h1
    injection h1 with _ h2
    exact hne h2
end Go.Proofs.Ytipoifokcnbfnaa
