/- A range over a function whose iterator holds memory of its own: each party may turn only its own blocks. -/
import Derived.RangeFuncNested
import Derived.RangeFuncBound
import Derived.RangeFuncCalls
import Derived.RangeFuncLeaves
import Derived.Test.YtmmmimkikakalaaNh
namespace Go.Proofs.Ytmmmimkikakalaa
open Go.RowKit
set_option linter.unusedVariables false

/-- A step that turns at most the blocks U, and lays new ones. -/
structure Turns (U : Nat → Prop) (W W' : World) : Prop where
  os : W'.os = W.os
  tape : W'.tape = W.tape
  output : W'.output = W.output
  size : W.heap.size ≤ W'.heap.size
  block : ∀ k, k < W.heap.size → ¬ U k → W'.heap[k]? = W.heap[k]?
theorem Turns.refl (U : Nat → Prop) (W : World) : Turns U W W := ⟨rfl, rfl, rfl, Nat.le_refl _, fun _ _ _ => rfl⟩
theorem Turns.trans {U U' : Nat → Prop} {A B C : World} (h : Turns U A B) (h' : Turns U' B C) (hU : ∀ k, U' k → k < A.heap.size → U k) : Turns U A C :=
  ⟨h'.os.trans h.os, h'.tape.trans h.tape, h'.output.trans h.output, Nat.le_trans h.size h'.size, fun k hk hn => (h'.block k (Nat.lt_of_lt_of_le hk h.size) (fun hu => hn (hU k hu hk))).trans (h.block k hk hn)⟩
theorem Turns.mono {U U' : Nat → Prop} {A B : World} (h : Turns U A B) (hU : ∀ k, U k → k < A.heap.size → U' k) : Turns U' A B :=
  ⟨h.os, h.tape, h.output, h.size, fun k hk hn => h.block k hk (fun hu => hn (hU k hu hk))⟩
theorem Turns.below {U : Nat → Prop} {A B : World} {n : Nat} (h : Turns U A B) (hU : ∀ k, k < n → k < A.heap.size → ¬ U k) (hn : n ≤ A.heap.size) : Below n A B :=
  ⟨h.os, h.tape, h.output, h.size, fun k hk => h.block k (by omega) (hU k hk (by omega))⟩
theorem Turns.of_below {A B : World} (h : Below A.heap.size A B) (U : Nat → Prop) : Turns U A B := ⟨h.os, h.tape, h.output, h.size, fun k hk _ => h.block k hk⟩
theorem Turns.putObj (W : World) (l : Nat) (o : Obj) : Turns (fun k => k = l) W (W.putObj l o) :=
  ⟨rfl, rfl, rfl, by simp, fun k _ hk => World.putObj_heap_other hk⟩
theorem Turns.of_grown {W W' : World} {row : Option Nat} (h : W.grownBy W' row) : Turns (fun k => some k = row) W W' :=
  ⟨h.os, h.tape, h.output, h.size, fun k hk hn => h.block k hk hn⟩

/-- What a party says stands while the other one turns what it holds. -/
def Stays {α : Type} (B : Nat) (J : List α → (Nat → Prop) → World → Prop) : Prop :=
  ∀ pre U W W', J pre U W → Turns (fun k => B ≤ k ∧ ¬ U k) W W' → J pre U W'

/-- The contract of an iterator: whatever a loop's body holds, it leaves; it gives xs with S xs, one by one, or is stopped. -/
def SeqO {α : Type} (P : Program) (g : Nat) (lb : Array Value) (encs : α → Array Value) (S Sp : List α → Prop) (N : Nat) (w : World) : Prop :=
  ∀ (n l : Nat) (J Jx : List α → (Nat → Prop) → World → Prop) (W : World) (U : Nat → Prop), Below w.heap.size w W → Stays W.heap.size J →
    (∀ pre U W, J pre U W → ∀ k, U k → k < W.heap.size ∧ w.heap.size ≤ k) →
    (∀ pre x W1 U1, J pre U1 W1 → pre.length < N → YieldAt Fence.wide n P l (encs x) W1 fun e W2 =>
      (e = .returned (.bool true) ∧ ∃ U2, J (pre ++ [x]) U2 W2 ∧ Turns U1 W1 W2 ∧ ∀ k, U2 k → U1 k ∨ W1.heap.size ≤ k) ∨ (e = .returned (.bool false) ∧ ∃ U2, Jx (pre ++ [x]) U2 W2)) →
    J [] U W →
    CallsIn Fence.wide (n + 1) P g (#[.func (.yield l) #[] #[]] ++ lb) W fun e W' => (∃ v, e = .returned v) ∧ ((∃ xs U', S xs ∧ J xs U' W') ∨ (∃ pre U', Sp pre ∧ Jx pre U' W'))
theorem SeqO.later {α : Type} {P : Program} {g : Nat} {lb : Array Value} {encs : α → Array Value} {S Sp : List α → Prop} {N : Nat} {w w' : World} (h : SeqO P g lb encs S Sp N w) (hb : Below w.heap.size w w') : SeqO P g lb encs S Sp N w' :=
  fun n l J Jx W U hW hJ hU hY h0 => h n l J Jx W U (hb.trans (hW.mono hb.size)) hJ (fun pre U W hj k hk => ⟨(hU pre U W hj k hk).1, Nat.le_trans hb.size (hU pre U W hj k hk).2⟩) hY h0

/-- How the body of a round may be left: where it goes on, it has turned what it holds alone; where it leaves the loop, it may have turned what lay ahead of the loop too. -/
def postO {α : Type} (B : Nat) (I : List α → (Nat → Prop) → World → Prop) (Ix : Code → List α → (Nat → Prop) → World → Prop) (xs : List α) (U : Nat → Prop) (W : World) : Exit → Act → World → Prop
  | .normal, _, W' => Turns U W W' ∧ ∃ U', I xs U' W' ∧ ∀ k, U' k → U k ∨ W.heap.size ≤ k
  | .ret, _, W' => Turns (fun k => U k ∨ k < B) W W' ∧ ∃ U', Ix .ret xs U' W' ∧ ∀ k, U' k → U k ∨ W.heap.size ≤ k
  | .exit id, _, W' => Turns (fun k => U k ∨ k < B) W W' ∧ ∃ U', Ix (.exit id) xs U' W' ∧ ∀ k, U' k → U k ∨ W.heap.size ≤ k
  | .goto t, _, W' => Turns (fun k => U k ∨ k < B) W W' ∧ ∃ U', Ix (.goto t) xs U' W' ∧ ∀ k, U' k → U k ∨ W.heap.size ≤ k
  | .panic _, _, _ => False
  | .outgrown, _, _ => False

/-- The statement, over an iterator that has its contract. -/
theorem wp_rangeFuncO {α : Type} {P : Program} {n : Nat} {g : Operand} {ps : Array Tmp} {assign body : Code} {Q : Exit → Act → World → Prop} {a : Act} {w : World}
    {gf : Nat} {lb : Array Value} (hg : a.eval g = .func (.func gf) #[] lb) (eg : ∀ args w, (callFunc gf args).run P w = .ok (.enter gf args) w)
    {encs : α → Array Value} {S Sp : List α → Prop} {N : Nat} {w0 : World} (hseq : SeqO P gf lb encs S Sp N w0) (hb0 : Below w0.heap.size w0 w) (hps : ∀ x, (encs x).size = ps.size)
    (I : List α → (Nat → Prop) → World → Prop) (Ix : Code → List α → (Nat → Prop) → World → Prop) (hI : Stays w.heap.size I) (hIx : ∀ c, Stays w.heap.size (Ix c))
    (U0 : Nat → Prop) (h0 : I [] U0 w) (hU : ∀ pre U W, I pre U W → ∀ k, U k → k < W.heap.size ∧ w0.heap.size ≤ k) (hUx : ∀ c pre U W, Ix c pre U W → ∀ k, U k → k < W.heap.size)
    (Ax : α → Act → World → Nat → Prop) (hAx : ∀ x a' W b W', Ax x a' W b → W'.heap[b]? = W.heap[b]? → Ax x a' W' b)
    (hassign : ∀ (l : Nat) (x : α) (W : World) (K : Act → World → Prop), (∀ a' W' b, Turns (fun _ => False) W W' → W.heap.size ≤ b → b < W'.heap.size → Ax x a' W' b → K a' W') →
      assign.wpIn (Fence.wide.inRound l) n P (Exit.then K (fun _ _ _ => False)) { tmps := (ps.zip (encs x)).foldl (fun t (p, v) => t.setIfInBounds p v) a.tmps, defers := [] } W)
    (hbody : ∀ (l : Nat) (pre : List α) (x : α) (W : World) (U : Nat → Prop) (b : Nat) (a' : Act), I pre U W → pre.length < N → Ax x a' W b → ¬ U b → b < W.heap.size → w.heap.size ≤ b → body.wpIn (Fence.wide.inRound l) n P (postO w.heap.size I Ix (pre ++ [x]) U W) a' W)
    (hdone : ∀ (D : Nat) (xs : List α) (U : Nat → Prop) (W : World), w.heap.size ≤ D → ¬ U D → S xs → I xs U W → W.heap[D]? = some (.deferred (some [])) → Q .normal { a with defers := { target := .collected D, args := #[] } :: a.defers } W)
    (hstop : ∀ (D : Nat) (c : Code) (pre : List α) (U : Nat → Prop) (W : World), w.heap.size ≤ D → ¬ U D → Sp pre → Ix c pre U W → W.heap[D]? = some (.deferred (some [])) → c.wpIn Fence.wide n P Q { a with defers := { target := .collected D, args := #[] } :: a.defers } W)
    (hU0 : ∀ k, U0 k → k < w.heap.size) :
    (Code.rangeFunc g ps assign body).wpIn Fence.wide n P Q a w := by
  refine wpIn_rangeFunc ?_
  intro fn hfn
  obtain ⟨rec, hrec⟩ : ∃ rec : LoopState → Option Code → Loop, rec = fun st pe => { state := st, pending := pe, fn, tmps := a.tmps, params := ps, assign, body, defers := w.heap.size } := ⟨_, rfl⟩
  obtain ⟨W1, hW1⟩ : ∃ W1, (w.alloc (.deferred (some []))).alloc (.loop (rec .ready none)) = W1 := ⟨_, rfl⟩
  have hL1 : W1.heap[w.heap.size + 1]? = some (.loop (rec .ready none)) := by
    rw [← hW1]; have := World.alloc_heap_new (w.alloc (.deferred (some []))) (.loop (rec .ready none)); rwa [World.size_alloc] at this
  have hK1 : W1.heap[w.heap.size]? = some (.deferred (some [])) := by
    rw [← hW1]; exact (Below.heap_alloc _ _ _ (by simp)).trans (World.alloc_heap_new w _)
  have hbw1 : Below w.heap.size w W1 := by
    rw [← hW1]; exact ((Below.refl _ w).alloc (Nat.le_refl _) _).alloc (by simp) _
  have hs1 : W1.heap.size = w.heap.size + 2 := by rw [← hW1]; simp
  have hI1 : I [] U0 W1 := hI [] U0 w W1 h0 (.of_below hbw1 _)
  have hb1 : Below w0.heap.size w0 W1 := hb0.trans (hbw1.mono hb0.size)
  refine ⟨w.heap.size + 1, [{ target := .collected w.heap.size, args := #[] }], W1, { target := .fn (.func gf) lb, args := #[.func (.yield (w.heap.size + 1)) #[] #[]] }, W1, gf,
    #[.func (.yield (w.heap.size + 1)) #[] #[]] ++ lb, W1, ?_, ?_, ?_, ?_, fun h => by simp [Fence.wide] at h, ?_⟩
  · rw [← hW1, hrec]; exact run_enterLoop_outer _ _ _ _ _
  · simp only [resolve, hg]
    simp [go_sem]
  · intro f' hf'; trivial
  · simp [invoke, go_sem, eg]
  · obtain ⟨L, hL⟩ : ∃ L, L = w.heap.size + 1 := ⟨_, rfl⟩
    rw [← hL] at hL1 ⊢
    have hab : ∀ (X : List α → (Nat → Prop) → World → Prop) (st : List α → World → Prop), Stays w.heap.size X → (∀ pre A B, st pre A → (L < A.heap.size → B.heap[L]? = A.heap[L]?) → st pre B) →
        Stays W1.heap.size (fun (pre : List α) (V : Nat → Prop) (W : World) => ∃ U, (∀ k, V k ↔ U k ∨ k = L) ∧ X pre U W ∧ (∀ k, U k → k < W.heap.size ∧ w0.heap.size ≤ k ∧ k ≠ L ∧ k ≠ w.heap.size) ∧ st pre W ∧ W.heap[w.heap.size]? = some (.deferred (some []))) := by
      intro X st hX hst pre V A B ⟨U, hV, hx, hu, hs, hk⟩ ht
      refine ⟨U, hV, hX pre U A B hx (ht.mono fun k hk _ => ⟨by have : W1.heap.size ≤ k := hk.1; omega, fun h => hk.2 ((hV k).2 (.inl h))⟩), fun k hk => ⟨Nat.lt_of_lt_of_le (hu k hk).1 ht.size, (hu k hk).2⟩, hst pre A B hs ?_, ?_⟩
      · intro hl
        exact ht.block L hl (fun h => h.2 ((hV L).2 (.inr rfl)))
      · exact (ht.block _ (Array.getElem?_eq_some_iff.1 hk).1 (fun h => by have : W1.heap.size ≤ w.heap.size := h.1; omega)).trans hk
    refine CallsIn.mono (h := ?_) (hr := ?_) (R := fun e W' => (∃ v, e = .returned v) ∧ ((∃ xs U', S xs ∧ (fun (pre : List α) (V : Nat → Prop) (W : World) => ∃ U : Nat → Prop, (∀ k, V k ↔ U k ∨ k = L) ∧ I pre U W ∧ (∀ k, U k → k < W.heap.size ∧ w0.heap.size ≤ k ∧ k ≠ L ∧ k ≠ w.heap.size) ∧ W.heap[L]? = some (.loop (rec .ready none)) ∧ W.heap[w.heap.size]? = some (.deferred (some []))) xs U' W') ∨
      (∃ pre U', Sp pre ∧ (fun (pre : List α) (U : Nat → Prop) (W : World) => ∃ c, Ix c pre U W ∧ (∀ k, U k → k ≠ L ∧ k ≠ w.heap.size) ∧ W.heap[L]? = some (.loop (rec .done (some c))) ∧ W.heap[w.heap.size]? = some (.deferred (some []))) pre U' W')))
    · have hcall := hseq (n - 1) L
        (fun (pre : List α) (V : Nat → Prop) (W : World) => ∃ U, (∀ k, V k ↔ U k ∨ k = L) ∧ I pre U W ∧ (∀ k, U k → k < W.heap.size ∧ w0.heap.size ≤ k ∧ k ≠ L ∧ k ≠ w.heap.size) ∧ W.heap[L]? = some (.loop (rec .ready none)) ∧ W.heap[w.heap.size]? = some (.deferred (some [])))
        (fun (pre : List α) (U : Nat → Prop) (W : World) => ∃ c, Ix c pre U W ∧ (∀ k, U k → k ≠ L ∧ k ≠ w.heap.size) ∧ W.heap[L]? = some (.loop (rec .done (some c))) ∧ W.heap[w.heap.size]? = some (.deferred (some [])))
        W1 (fun k => U0 k ∨ k = L) hb1 (hab I (fun _ W => W.heap[L]? = some (.loop (rec .ready none))) hI (fun _ A B h he => (he (Array.getElem?_eq_some_iff.1 h).1).trans h)) ?_ ?_ ?_
      · exact callsIn_wide.2 (callsIn_wide.1 hcall)
      · rintro pre V W ⟨U, hV, hi, hu, hl, hk⟩ k hk'
        rcases (hV k).1 hk' with h | rfl
        · exact ⟨(hu k h).1, (hu k h).2.1⟩
        · exact ⟨(Array.getElem?_eq_some_iff.1 hl).1, by have := hb0.size; omega⟩
      · rintro pre x W V ⟨U, hV, hi, hu, hl, hk⟩ hlen
        have hlt : L < W.heap.size := (Array.getElem?_eq_some_iff.1 hl).1
        have hy := run_yield (P := P) (args := encs x) hl (by rw [hrec]; exact hps x)
        rw [hrec] at hy
        refine ⟨fn, _, assign, body, hy, ?_⟩
        have hRI : RoundIn Fence.wide n P L fn _ assign body W _ := roundIn_of_wpIn hfn (hassign L x W _ ?_) (R := fun e W2 => (e = .returned (.bool true) ∧ ∃ U2 : Nat → Prop, (∃ U : Nat → Prop, (∀ k, U2 k ↔ U k ∨ k = L) ∧ I (pre ++ [x]) U W2 ∧ (∀ k, U k → k < W2.heap.size ∧ w0.heap.size ≤ k ∧ k ≠ L ∧ k ≠ w.heap.size) ∧ W2.heap[L]? = some (.loop (rec .ready none)) ∧ W2.heap[w.heap.size]? = some (.deferred (some []))) ∧ Turns V W W2 ∧ ∀ k, U2 k → V k ∨ W.heap.size ≤ k) ∨
          (e = .returned (.bool false) ∧ ∃ U2 : Nat → Prop, ∃ c, Ix c (pre ++ [x]) U2 W2 ∧ (∀ k, U2 k → k ≠ L ∧ k ≠ w.heap.size) ∧ W2.heap[L]? = some (.loop (rec .done (some c))) ∧ W2.heap[w.heap.size]? = some (.deferred (some []))))
        · exact ⟨hRI.1, fun c cs hr => hRI.2 c cs (room_wide _)⟩
        · intro a' Wa b hta hba hbl hax
          have hla : Wa.heap[L]? = some (.loop (rec .ready none)) := (hta.block L hlt (fun h => h)).trans hl
          have hka : Wa.heap[w.heap.size]? = some (.deferred (some [])) := (hta.block _ (Array.getElem?_eq_some_iff.1 hk).1 (fun h => h)).trans hk
          refine ⟨_, run_beginRound hla (by rw [hrec]), ?_⟩
          obtain ⟨Wb, hWb⟩ : ∃ Wb, Wb = Wa.putObj L (.loop { rec .ready none with state := .busy }) := ⟨_, rfl⟩
          have hbL : b ≠ L := by omega
          have htb : Turns (fun k => k = L) Wa Wb := by rw [hWb]; exact Turns.putObj _ _ _
          have hsb : Wb.heap.size = Wa.heap.size := by rw [hWb]; simp
          have hlb : Wb.heap[L]? = some (.loop { rec .ready none with state := .busy }) := by rw [hWb]; exact World.putObj_heap_same (by have := hta.size; omega)
          have hkb : Wb.heap[w.heap.size]? = some (.deferred (some [])) := (htb.block _ (by have := hta.size; omega) (by omega)).trans hka
          have hUL : ¬ U L := fun h => (hu L h).2.2.1 rfl
          have hIb : I pre U Wb := hI pre U W Wb hi ((hta.mono (U' := fun k => w.heap.size ≤ k ∧ ¬ U k) (fun _ h _ => h.elim)).trans htb (fun k h _ => by subst h; exact ⟨by omega, hUL⟩))
          rw [← hWb]
          refine wpIn_mono (hbody L pre x Wb U b a' hIb hlen (hAx x a' Wa b Wb hax (htb.block b hbl hbL)) (fun h => by have := (hu b h).1; omega) (by omega) (by have := hta.size; omega)) ?_
          have fin : ∀ (jump : Option Code) (W3 : World), Turns (fun k => U k ∨ k < w.heap.size) Wb W3 →
              (Instr.endRound L jump).run P W3 = .ok (.bool jump.isNone) (W3.putObj L (.loop (rec (if jump.isNone then .ready else .done) jump))) ∧
              (W3.putObj L (.loop (rec (if jump.isNone then .ready else .done) jump))).heap[L]? = some (.loop (rec (if jump.isNone then .ready else .done) jump)) ∧
              (W3.putObj L (.loop (rec (if jump.isNone then .ready else .done) jump))).heap[w.heap.size]? = some (.deferred (some [])) := fun jump W3 ht3 => by
            have hl3 : W3.heap[L]? = some (.loop { rec .ready none with state := .busy }) := (ht3.block L (by omega) (fun h => h.elim hUL (fun h => by omega))).trans hlb
            have hk3 : W3.heap[w.heap.size]? = some (.deferred (some [])) := (ht3.block _ (Array.getElem?_eq_some_iff.1 hkb).1 (fun h => h.elim (fun h => (hu _ h).2.2.2 rfl) (fun h => by omega))).trans hkb
            have hr := run_endRound (P := P) jump hl3
            rw [hrec] at hr ⊢
            refine ⟨hr, World.putObj_heap_same (Array.getElem?_eq_some_iff.1 hl3).1, (World.putObj_heap_other (by omega)).trans hk3⟩
          have fresh : ∀ {X : List α → (Nat → Prop) → World → Prop} (W3 : World) (U' : Nat → Prop) (o : Obj), Turns (fun k => U k ∨ k < w.heap.size) Wb W3 → X (pre ++ [x]) U' W3 → Stays w.heap.size X → (∀ k, U' k → U k ∨ Wb.heap.size ≤ k) →
              X (pre ++ [x]) U' (W3.putObj L o) ∧ (∀ k, U' k → k ≠ L ∧ k ≠ w.heap.size) := fun {X} W3 U' o ht3 hx hX hsub => by
            have hne : ∀ k, U' k → k ≠ L ∧ k ≠ w.heap.size := fun k hk => by
              rcases hsub k hk with h | h
              · exact (hu k h).2.2
              · have := hta.size; constructor <;> omega
            exact ⟨hX _ _ _ _ hx ((Turns.putObj W3 L o).mono fun k h _ => ⟨by omega, fun h' => (hne k h').1 h⟩), hne⟩
          rintro e a3 W3 hp
          cases e with
          | normal =>
            obtain ⟨ht3, U', hi3, hsub⟩ := hp
            obtain ⟨hr, hl4, hk4⟩ := fin none W3 (ht3.mono (fun k h _ => .inl h))
            obtain ⟨hi4, hne⟩ := fresh W3 U' (.loop (rec .ready none)) (ht3.mono (fun k h _ => .inl h)) hi3 hI hsub
            have htt : Turns (fun k => U k ∨ k = L) W (W3.putObj L (.loop (rec .ready none))) := by
              have h1 : Turns (fun k => U k ∨ k = L) W Wb := (hta.mono (fun _ h _ => h.elim)).trans htb (fun k h _ => .inr h)
              have h2 : Turns (fun k => U k ∨ k = L) W W3 := h1.trans ht3 (fun k h _ => .inl h)
              exact h2.trans (Turns.putObj _ _ _) (fun k h _ => .inr h)
            refine ⟨_, _, hr, .inl ⟨rfl, fun k => U' k ∨ k = L, ⟨U', fun k => Iff.rfl, hi4, fun k hk => ⟨by have := (hU _ _ _ hi3 k hk).1; simpa using this, (hU _ _ _ hi3 k hk).2, hne k hk⟩, hl4, hk4⟩, htt.mono (fun k h _ => (hV k).2 h), fun k hk => ?_⟩⟩
            rcases hk with h | h
            · rcases hsub k h with h | h
              · exact .inl ((hV k).2 (.inl h))
              · exact .inr (by have := hta.size; omega)
            · exact .inl ((hV k).2 (.inr h))
          | ret =>
            obtain ⟨ht3, U', hi3, hsub⟩ := hp
            obtain ⟨hr, hl4, hk4⟩ := fin (some .ret) W3 ht3
            obtain ⟨hi4, hne⟩ := fresh W3 U' (.loop (rec .done (some .ret))) ht3 hi3 (hIx _) hsub
            exact ⟨_, _, hr, .inr ⟨rfl, U', .ret, hi4, hne, hl4, hk4⟩⟩
          | exit id =>
            obtain ⟨ht3, U', hi3, hsub⟩ := hp
            obtain ⟨hr, hl4, hk4⟩ := fin (some (.exit id)) W3 ht3
            obtain ⟨hi4, hne⟩ := fresh W3 U' (.loop (rec .done (some (.exit id)))) ht3 hi3 (hIx _) hsub
            exact ⟨_, _, hr, .inr ⟨rfl, U', .exit id, hi4, hne, hl4, hk4⟩⟩
          | goto t =>
            obtain ⟨ht3, U', hi3, hsub⟩ := hp
            obtain ⟨hr, hl4, hk4⟩ := fin (some (.goto t)) W3 ht3
            obtain ⟨hi4, hne⟩ := fresh W3 U' (.loop (rec .done (some (.goto t)))) ht3 hi3 (hIx _) hsub
            exact ⟨_, _, hr, .inr ⟨rfl, U', .goto t, hi4, hne, hl4, hk4⟩⟩
          | panic ch => exact hp.elim
          | outgrown => exact hp.elim
      · exact ⟨U0, fun k => Iff.rfl, hI1, fun k hk => ⟨by have := hU0 k hk; omega, (hU _ _ _ h0 k hk).2, by have := hU0 k hk; omega, by have := hU0 k hk; omega⟩, hL1, hK1⟩
    · rintro e W2 ⟨⟨v, rfl⟩, (⟨xs, V, hS, U, hV, hi, hu, hl, hk⟩ | ⟨pre, U, hSp, c, hi, hne, hl, hk⟩)⟩
      · refine ⟨none, _, by have := run_endLoop (P := P) hl (by rw [hrec]; simp); rw [hrec] at this; exact this, ?_⟩
        exact hdone _ xs U _ (Nat.le_refl _) (fun h => (hu _ h).2.2.2 rfl) hS (hI _ _ _ _ hi ((Turns.putObj W2 L _).mono fun k h _ => ⟨by omega, fun h' => (hu k h').2.2.1 h⟩)) ((World.putObj_heap_other (by omega)).trans hk)
      · refine ⟨some c, _, by have := run_endLoop (P := P) hl (by rw [hrec]; simp); rw [hrec] at this; exact this, ?_⟩
        exact hstop _ c pre U _ (Nat.le_refl _) (fun h => (hne _ h).2 rfl) hSp ((hIx c) _ _ _ _ hi ((Turns.putObj W2 L _).mono fun k h _ => ⟨by omega, fun h' => (hne k h').1 h⟩)) ((World.putObj_heap_other (by omega)).trans hk)
end Go.Proofs.Ytmmmimkikakalaa
