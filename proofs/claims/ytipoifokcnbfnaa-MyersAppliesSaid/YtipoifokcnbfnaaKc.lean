/- The walk of cost: the lists forward, each so-manieth kept. -/
import Derived.Test.YtipoifokcnbfnaaKb
import Derived.Maps.Views
namespace Go.Proofs.Ytipoifokcnbfnaa
open Go.RowKit
set_option linter.unusedVariables false

/-- A slice as a map's datum. -/
def slD : Option Addr → Nat → Nat → DataW Unit
  | none, n, c => .agg [.lit (.int .i64 n), .lit (.int .i64 c)]
  | some a, n, c => .agg [.lit (.int .i64 a.block), .lit (.int .i64 a.off), .lit (.int .i64 n), .lit (.int .i64 c)]
def slR : Value → Option (DataW Unit × List MemPlace)
  | .slice none n c => some (slD none n c, [])
  | .slice (some ⟨g, o, none⟩) n c => some (slD (some ⟨g, o, none⟩) n c, [])
  | _ => none
theorem slR_inv {v : Value} {ps : List MemPlace} {g n c : Nat} (h : slR v = some (slD (some ⟨g, 0, none⟩) n c, ps)) : v = .slice (some ⟨g, 0, none⟩) n c := by
  unfold slR at h
  split at h
  · simp [slD] at h
  · simp only [slD, Option.some.injEq, Prod.mk.injEq, DataW.agg.injEq, List.cons.injEq, DataW.lit.injEq, Lit.int.injEq, true_and, and_true] at h
    obtain ⟨⟨h1, h2, h3, h4⟩, _⟩ := h
    have e1 := Int.ofNat.inj h1
    have e2 := Int.ofNat.inj h2
    have e3 := Int.ofNat.inj h3
    have e4 := Int.ofNat.inj h4
    subst e1 e2 e3 e4
    rfl
  · cases h

/-- The world ahead of all, and one whose rows of bytes are kept. -/
structure WW where
  o : World
  t : World
/-- A search at work: where it lies, what it holds. -/
structure St (W0 : WW) (w : World) (s m : Nat) (a b : List Int) (pa pb : Option Addr) (ca cb : Nat) (blk : Value) (fr : Int) : Prop where
  bel : Below W0.o.heap.size W0.o w
  ina : (numR .i32).In W0.o pa a
  inb : (numR .i32).In W0.o pb b
  hs : W0.o.heap.size ≤ s
  hm : W0.o.heap.size ≤ m
  ne : s ≠ m
  k5 : KeptT 5 W0.t w
  at' : w.heap[s]? = some (.cells #[.slice pa a.length ca, .slice pb b.length cb, .map (some m), blk, .int .i64 fr] 58 (0, 0))
theorem St.lt {W0 : WW} {w : World} {s m : Nat} {a b : List Int} {pa pb : Option Addr} {ca cb : Nat} {blk : Value} {fr : Int} (h : St W0 w s m a b pa pb ca cb blk fr) : s < w.heap.size := (Array.getElem?_eq_some_iff.1 h.at').1
theorem St.srch {W0 : WW} {w : World} {s m : Nat} {a b : List Int} {pa pb : Option Addr} {ca cb : Nat} {blk : Value} {fr : Int} (h : St W0 w s m a b pa pb ca cb blk fr) : Srch w s a b :=
  ⟨pa, ca, pb, cb, h.lt, by rw [Lib.cell_of_heap h.at']; rfl, by rw [Lib.cell_of_heap h.at']; rfl, h.ina.below h.bel, h.inb.below h.bel⟩
theorem St.below {W0 : WW} {w w' : World} {s m : Nat} {a b : List Int} {pa pb : Option Addr} {ca cb : Nat} {blk : Value} {fr : Int} (h : St W0 w s m a b pa pb ca cb blk fr) (hb : Below w.heap.size w w') : St W0 w' s m a b pa pb ca cb blk fr :=
  { h with bel := h.bel.trans (hb.mono h.bel.size), k5 := h.k5.trans (KeptT.of_below hb), at' := (hb.block s h.lt).trans h.at' }
theorem St.grown {W0 : WW} {w w' : World} {s m : Nat} {a b : List Int} {pa pb : Option Addr} {ca cb : Nat} {blk : Value} {fr : Int} {row : Option Nat} (h : St W0 w s m a b pa pb ca cb blk fr) (hg : w.grownBy w' row) (h1 : ∀ g, row = some g → W0.o.heap.size ≤ g) (h2 : row ≠ some s) (h3 : ∀ g, row = some g → ∀ cur : Array Value, w.heap[g]? ≠ some (Obj.cells cur 5 (0, 0))) : St W0 w' s m a b pa pb ca cb blk fr :=
  { h with bel := h.bel.grown hg h.bel.size h1, k5 := h.k5.trans (KeptT.grown (e' := 0) hg h3), at' := (hg.block s h.lt (fun e => h2 e.symm)).trans h.at' }

/-- The kept lists. -/
def Saved (w : World) (base : Nat) (a b : List Int) (D : DataW Unit) (N : Nat) : Prop :=
  ∀ q : Nat, 64 * q < N → ∃ g c, D.atKey (.int .i64 (64 * q : Nat)) (slD none 0 0) = slD (some ⟨g, 0, none⟩) (64 * q + 1) c ∧ (numR .i32).row 21 base (PL a b (64 * q)) (.slice (some ⟨g, 0, none⟩) (64 * q + 1) c) w
theorem Saved.kept {w w' : World} {base : Nat} {a b : List Int} {D : DataW Unit} {N : Nat} (h : Saved w base a b D N) (hk : KeptT 21 w w') : Saved w' base a b D N := fun q hq => by
  obtain ⟨g, c, h1, h2⟩ := h q hq
  exact ⟨g, c, h1, row_keptT h2 hk⟩
theorem Saved.more {w : World} {base : Nat} {a b : List Int} {D : DataW Unit} {N : Nat} (h : Saved w base a b D N) (hn : N % 64 ≠ 0) : Saved w base a b D (N + 1) := fun q hq => h q (by omega)
theorem Saved.put {w : World} {base : Nat} {a b : List Int} {D : DataW Unit} {N : Nat} (h : Saved w base a b D N) (hD : Maps.IsMap D) (hn : N % 64 = 0) {g c : Nat} (hr : (numR .i32).row 21 base (PL a b N) (.slice (some ⟨g, 0, none⟩) (N + 1) c) w) :
    Saved w base a b (D.put (.int .i64 (N : Nat)) (slD (some ⟨g, 0, none⟩) (N + 1) c)) (N + 1) := fun q hq => by
  by_cases he : 64 * q = N
  · subst he
    exact ⟨g, c, Maps.atKey_put_same hD (by simp [WideAt.IsKeyLit]) _ _, hr⟩
  · obtain ⟨g', c', h1, h2⟩ := h q (by omega)
    refine ⟨g', c', ?_, h2⟩
    rw [Maps.atKey_put_other (by intro e; injection e with _ e; omega)]
    exact h1
theorem isMap_own {w : World} {R : Value → Option (DataW Unit × List MemPlace)} {m n : Nat} {D : DataW Unit} {k : TypeId} (h : w.ownsMap Try.prog k R m n D) : Maps.IsMap D := by
  obtain ⟨es, clock, _, _, _, rfl⟩ := h
  exact ⟨_, rfl⟩

/-- next, of whatever list. -/
theorem next_any (s : Nat) (a b : List Int) (d : Nat) (v : Value) (base : Nat) (w : World) (h : Srch w s a b) (ha : a.length ≤ 4096) (hb : b.length ≤ 4096) (hd : d ≤ 10000)
    (hv : (d = 0 ∧ v = .slice none 0 0) ∨ (∃ d', d = d' + 1 ∧ (numR .i32).row 21 base (PL a b d') v w)) :
    Calls Try.prog 33 #[.pointer (some ⟨s, 0, none⟩), .int .i64 d, v] w fun e w' => ∃ v, e = .returned v ∧ (numR .i32).row 21 w.heap.size (PL a b d) v w' ∧ Below w.heap.size w w' := by
  rcases hv with ⟨rfl, rfl⟩ | ⟨d', rfl, hr⟩
  · exact next0_any s a b none 0 0 w h ha hb
  · obtain ⟨pl, c, rfl, _, _, hin, _⟩ := hr.sl
    rw [PL_len]
    exact nextS_any s a b d' pl c w h ha hb (by omega) hin
theorem PL_in (a b : List Int) (ha : a.length ≤ 4096) (d : Nat) : ∀ x ∈ PL a b d, 0 ≤ x ∧ x ≤ 2147483647 := by
  intro x hx
  obtain ⟨t, ht, rfl⟩ := List.getElem_of_mem hx
  rw [PL_len] at ht
  have h := PL_bd a b ha d t (by omega)
  have e : (PL a b d)[t] = (PL a b d).getD t never := by
    have h2 : t < (PL a b d).length := by rw [PL_len]; exact ht
    simp [List.getD_eq_getElem?_getD, h2]
  rw [e]
  unfold never at *
  omega

end Go.Proofs.Ytipoifokcnbfnaa
