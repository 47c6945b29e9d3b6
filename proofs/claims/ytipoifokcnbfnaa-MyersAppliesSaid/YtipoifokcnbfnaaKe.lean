/- The walk of list: the lists of a block, made again. -/
import Derived.Test.YtipoifokcnbfnaaKd
import Derived.StillTailTactics
namespace Go.Proofs.Ytipoifokcnbfnaa
open Go.RowKit
set_option linter.unusedVariables false

theorem row_block {α : Type} {R : Rec α} {e : TypeId} {base : Nat} {O : List α} {v : Value} {w : World} (h : R.row e base O v w) : ∀ g, v.ownBlock = some g → base ≤ g ∧ ∃ cur, w.heap[g]? = some (Obj.cells cur e (0, 0)) := by
  intro g hg
  obtain ⟨_, _, ⟨rfl, _⟩ | ⟨g', cap, cur', rfl, hb, hh, _⟩⟩ := h
  · cases hg
  · simp only [Value.ownBlock, Option.some.injEq] at hg
    subst hg
    exact ⟨hb, cur', hh⟩
/-- The lists of a block. -/
def Rows (w : World) (base : Nat) (a b : List Int) (q : Nat) (hs : List (Option Addr × Nat × Nat)) : Prop :=
  ∀ (i : Nat) (h : Option Addr × Nat × Nat), hs[i]? = some h → ∃ g c, h = (some ⟨g, 0, none⟩, 64 * q + i + 1, c) ∧ (numR .i32).row 21 base (PL a b (64 * q + i)) (.slice (some ⟨g, 0, none⟩) (64 * q + i + 1) c) w
theorem Rows.kept {w w' : World} {base : Nat} {a b : List Int} {q : Nat} {hs : List (Option Addr × Nat × Nat)} (h : Rows w base a b q hs) (hk : KeptT 21 w w') : Rows w' base a b q hs := fun i x hx => by
  obtain ⟨g, c, h1, h2⟩ := h i x hx
  exact ⟨g, c, h1, row_keptT h2 hk⟩
theorem Rows.snoc {w : World} {base : Nat} {a b : List Int} {q : Nat} {hs : List (Option Addr × Nat × Nat)} (h : Rows w base a b q hs) {g c : Nat} (hr : (numR .i32).row 21 base (PL a b (64 * q + hs.length)) (.slice (some ⟨g, 0, none⟩) (64 * q + hs.length + 1) c) w) :
    Rows w base a b q (hs ++ [(some ⟨g, 0, none⟩, 64 * q + hs.length + 1, c)]) := fun i x hx => by
  by_cases hi : i < hs.length
  · rw [List.getElem?_append_left hi] at hx
    exact h i x hx
  · have hl := (List.getElem?_eq_some_iff.1 hx).1
    simp at hl
    have : i = hs.length := by omega
    subst this
    simp at hx
    exact ⟨g, c, hx.symm, hr⟩
/-- The block that a search has at hand. -/
def Blk (w : World) (base : Nat) (a b : List Int) (blk : Value) (fr : Int) : Prop :=
  ∃ hs, hdrR.row 22 base hs blk w ∧ ((hs = [] ∧ blk = .slice none 0 0) ∨ (hs ≠ [] ∧ ∃ q : Nat, fr = (64 * q : Nat) ∧ hs.length ≤ 64 ∧ Rows w base a b q hs))

theorem St.keptT {W0 : WW} {w : World} {s m : Nat} {a b : List Int} {pa pb : Option Addr} {ca cb : Nat} {blk : Value} {fr : Int} (h : St W0 w s m a b pa pb ca cb blk fr) (o : Nat) (v : Value) (e : TypeId) (he : e ≠ 58) : KeptT e w (w.setCell ⟨s, o, none⟩ v) :=
  KeptT.setCell w s o v (fun cur hc => by rw [h.at'] at hc; injection hc with h1; injection h1 with _ h2; exact he h2.symm)
theorem St.setF {W0 : WW} {w : World} {s m : Nat} {a b : List Int} {pa pb : Option Addr} {ca cb : Nat} {blk : Value} {fr : Int} (h : St W0 w s m a b pa pb ca cb blk fr) (fr' : Int) : St W0 (w.setCell ⟨s, 4, none⟩ (.int .i64 fr')) s m a b pa pb ca cb blk fr' :=
  { h with bel := h.bel.setCell (p := ⟨s, 4, none⟩) h.hs _, k5 := h.k5.trans (h.keptT 4 _ 5 (by decide)), at' := heap_setCell_same w s 4 _ 58 _ h.at' }
theorem St.setB {W0 : WW} {w : World} {s m : Nat} {a b : List Int} {pa pb : Option Addr} {ca cb : Nat} {blk : Value} {fr : Int} (h : St W0 w s m a b pa pb ca cb blk fr) (v : Value) : St W0 (w.setCell ⟨s, 3, none⟩ v) s m a b pa pb ca cb v fr :=
  { h with bel := h.bel.setCell (p := ⟨s, 3, none⟩) h.hs _, k5 := h.k5.trans (h.keptT 3 _ 5 (by decide)), at' := heap_setCell_same w s 3 _ 58 _ h.at' }
theorem own_set {w : World} {s m n o : Nat} {D : DataW Unit} {v : Value} (h : w.ownsMap Try.prog 3 slR m n D) (hne : s ≠ m) : (w.setCell ⟨s, o, none⟩ v).ownsMap Try.prog 3 slR m n D := by
  obtain ⟨es, clock, h1, h2⟩ := h
  exact ⟨es, clock, (Below.heap_setCell w ⟨s, o, none⟩ v m (fun e => hne e.symm)).trans h1, h2⟩
theorem own_below {w w' : World} {m n : Nat} {D : DataW Unit} (h : w.ownsMap Try.prog 3 slR m n D) (hb : Below w.heap.size w w') : w'.ownsMap Try.prog 3 slR m n D := by
  obtain ⟨es, clock, h1, h2⟩ := h
  exact ⟨es, clock, (hb.block m (Array.getElem?_eq_some_iff.1 h1).1).trans h1, h2⟩
theorem zero22 (w : World) : (zeroValue 22).run Try.prog w = .ok (.slice none 0 0) w := by
  have h : ((Try.prog.info? 22).bind (·.zero)) = some (.slice none 0 0) := by kernel_rfl
  cases hi : Try.prog.info? 22 with
  | none => rw [hi] at h; cases h
  | some i =>
    rw [hi] at h
    simp only [Option.bind_some] at h
    simp [zeroValue, typeInfo, hi, h]
/-- What a kept list reads as. -/
theorem saved_look {w : World} {base m n : Nat} {a b : List Int} {D : DataW Unit} {N q : Nat} (h : Saved w base a b D N) (ho : w.ownsMap Try.prog 3 slR m n D) (hq : 64 * q < N) (hqb : q < 1000000) :
    ∃ g c, (Instr.lookup 55 (.map (some m)) (.int .i64 ((64 * q : Nat) : Int)) false).run Try.prog w = .ok (.slice (some ⟨g, 0, none⟩) (64 * q + 1) c) w ∧ (numR .i32).row 21 base (PL a b (64 * q)) (.slice (some ⟨g, 0, none⟩) (64 * q + 1) c) w := by
  obtain ⟨g, c, h1, h2⟩ := h q hq
  have hkey : keyOf Try.prog 3 (.int .i64 ((64 * q : Nat) : Int)) = some (.int .i64 ((64 * q : Nat) : Int)) := Maps.keyOf_int_mk Try.underlying3 (by unfold Lit.wf; rw [Bool.and_eq_true, decide_eq_true_eq, decide_eq_true_eq]; show (-9223372036854775808 : Int) ≤ _ ∧ _ ≤ (9223372036854775807 : Int); omega)
  obtain ⟨v, ps, h3, h4⟩ := ho.lookup (Maps.int_keyed Try.underlying3) Try.underlying55 (zero22 w) (zd := slD none 0 0) (zp := []) rfl hkey
  rw [h1] at h4
  have := slR_inv h4
  subst this
  exact ⟨g, c, h3, h2⟩
end Go.Proofs.Ytipoifokcnbfnaa
