/- A range over a function whose iterator holds memory of its own: each party may turn only its own blocks; the body may turn the blocks E besides, which the iterator does not look at. -/
import Derived.RangeFuncNested
import Derived.RangeFuncBound
import Derived.RangeFuncCalls
import Derived.RangeFuncLeaves
import Derived.Test.YtcgioboiebanpaaNw
namespace Go.Proofs.Ytcgioboiebanpaa
open Go.RowKit
set_option linter.unusedVariables false

/-- A step that turns at most the blocks U, and lays new ones. -/
structure Turns (U : Nat → Prop) (W W' : World) : Prop where
  os : W'.os = W.os
  tape : W'.tape = W.tape
  output : W'.output = W.output
  size : W.heap.size ≤ W'.heap.size
  block : ∀ k, k < W.heap.size → ¬ U k → W'.heap[k]? = W.heap[k]?
theorem Turns.refl (U : Nat → Prop) (W : World) : Turns U W W := ⟨rfl, rfl, rfl, Nat.le_refl _, fun _ _ _ => rfl⟩
theorem Turns.trans {U U' : Nat → Prop} {A B C : World} (h : Turns U A B) (h' : Turns U' B C) (hU : ∀ k, U' k → k < A.heap.size → U k) : Turns U A C :=
  ⟨h'.os.trans h.os, h'.tape.trans h.tape, h'.output.trans h.output, Nat.le_trans h.size h'.size, fun k hk hn => (h'.block k (Nat.lt_of_lt_of_le hk h.size) (fun hu => hn (hU k hu hk))).trans (h.block k hk hn)⟩
theorem Turns.mono {U U' : Nat → Prop} {A B : World} (h : Turns U A B) (hU : ∀ k, U k → k < A.heap.size → U' k) : Turns U' A B :=
  ⟨h.os, h.tape, h.output, h.size, fun k hk hn => h.block k hk (fun hu => hn (hU k hu hk))⟩
theorem Turns.below {U : Nat → Prop} {A B : World} {n : Nat} (h : Turns U A B) (hU : ∀ k, k < n → k < A.heap.size → ¬ U k) (hn : n ≤ A.heap.size) : Below n A B :=
  ⟨h.os, h.tape, h.output, h.size, fun k hk => h.block k (by omega) (hU k hk (by omega))⟩
theorem Turns.of_below {A B : World} (h : Below A.heap.size A B) (U : Nat → Prop) : Turns U A B := ⟨h.os, h.tape, h.output, h.size, fun k hk _ => h.block k hk⟩
theorem Turns.putObj (W : World) (l : Nat) (o : Obj) : Turns (fun k => k = l) W (W.putObj l o) :=
  ⟨rfl, rfl, rfl, by simp, fun k _ hk => World.putObj_heap_other hk⟩
theorem Turns.of_grown {W W' : World} {row : Option Nat} (h : W.grownBy W' row) : Turns (fun k => some k = row) W W' :=
  ⟨h.os, h.tape, h.output, h.size, fun k hk hn => h.block k hk hn⟩

/-- What a party says stands while the other one turns what it holds. -/
def Stays {α : Type} (B : Nat) (J : List α → (Nat → Prop) → World → Prop) : Prop :=
  ∀ pre U W W', J pre U W → Turns (fun k => B ≤ k ∧ ¬ U k) W W' → J pre U W'

/-- The contract of an iterator: whatever a loop's body holds, it leaves; it gives xs with S xs, one by one, or is stopped. -/
def SeqO {α : Type} (P : Program) (g : Nat) (lb : Array Value) (encs : α → Array Value) (S Sp : List α → Prop) (N : Nat) (w : World) (E : Nat → Prop) : Prop :=
  ∀ (n l : Nat) (J Jx : List α → (Nat → Prop) → World → Prop) (W : World) (U : Nat → Prop), Below w.heap.size w W → Stays W.heap.size J →
    (∀ pre U W, J pre U W → ∀ k, U k → k < W.heap.size ∧ (w.heap.size ≤ k ∨ E k)) →
    (∀ pre x W1 U1, J pre U1 W1 → pre.length < N → YieldAt Fence.wide n P l (encs x) W1 fun e W2 =>
      (e = .returned (.bool true) ∧ ∃ U2, J (pre ++ [x]) U2 W2 ∧ Turns U1 W1 W2 ∧ ∀ k, U2 k → U1 k ∨ W1.heap.size ≤ k) ∨ (e = .returned (.bool false) ∧ ∃ U2, Jx (pre ++ [x]) U2 W2)) →
    J [] U W →
    CallsIn Fence.wide (n + 1) P g (#[.func (.yield l) #[] #[]] ++ lb) W fun e W' => (∃ v, e = .returned v) ∧ ((∃ xs U', S xs ∧ J xs U' W') ∨ (∃ pre U', Sp pre ∧ Jx pre U' W'))
theorem SeqO.later {α : Type} {P : Program} {g : Nat} {lb : Array Value} {encs : α → Array Value} {S Sp : List α → Prop} {N : Nat} {w w' : World} {E : Nat → Prop} (h : SeqO P g lb encs S Sp N w E) (hb : Below w.heap.size w w') : SeqO P g lb encs S Sp N w' E :=
  fun n l J Jx W U hW hJ hU hY h0 => h n l J Jx W U (hb.trans (hW.mono hb.size)) hJ (fun pre U W hj k hk => ⟨(hU pre U W hj k hk).1, (hU pre U W hj k hk).2.imp (fun h => Nat.le_trans hb.size h) id⟩) hY h0

/-- How the body of a round may be left: where it goes on, it has turned what it holds alone; where it leaves the loop, it may have turned what lay ahead of the loop too. -/
def postO {α : Type} (B : Nat) (I : List α → (Nat → Prop) → World → Prop) (Ix : Code → List α → (Nat → Prop) → World → Prop) (xs : List α) (U : Nat → Prop) (W : World) : Exit → Act → World → Prop
  | .normal, _, W' => Turns U W W' ∧ ∃ U', I xs U' W' ∧ ∀ k, U' k → U k ∨ W.heap.size ≤ k
  | .ret, _, W' => Turns (fun k => U k ∨ k < B) W W' ∧ ∃ U', Ix .ret xs U' W' ∧ ∀ k, U' k → U k ∨ W.heap.size ≤ k
  | .exit id, _, W' => Turns (fun k => U k ∨ k < B) W W' ∧ ∃ U', Ix (.exit id) xs U' W' ∧ ∀ k, U' k → U k ∨ W.heap.size ≤ k
  | .goto t, _, W' => Turns (fun k => U k ∨ k < B) W W' ∧ ∃ U', Ix (.goto t) xs U' W' ∧ ∀ k, U' k → U k ∨ W.heap.size ≤ k
  | .panic _, _, _ => False
  | .outgrown, _, _ => False

/-- The statement, over an iterator that has its contract. -/
theorem wp_rangeFuncO {α : Type} {P : Program} {n : Nat} {g : Operand} {ps : Array Tmp} {assign body : Code} {Q : Exit → Act → World → Prop} {a : Act} {w : World}
    {gf : Nat} {lb : Array Value} (hg : a.eval g = .func (.func gf) #[] lb) (eg : ∀ args w, (callFunc gf args).run P w = .ok (.enter gf args) w)
    {encs : α → Array Value} {S Sp : List α → Prop} {N : Nat} {w0 : World} {E : Nat → Prop} (hseq : SeqO P gf lb encs S Sp N w0 E) (hb0 : Below w0.heap.size w0 w) (hps : ∀ x, (encs x).size = ps.size)
    (I : List α → (Nat → Prop) → World → Prop) (Ix : Code → List α → (Nat → Prop) → World → Prop) (hI : Stays w.heap.size I) (hIx : ∀ c, Stays w.heap.size (Ix c))
    (U0 : Nat → Prop) (h0 : I [] U0 w) (hU : ∀ pre U W, I pre U W → ∀ k, U k → k < W.heap.size ∧ (w0.heap.size ≤ k ∨ E k)) (hUx : ∀ c pre U W, Ix c pre U W → ∀ k, U k → k < W.heap.size)
    (Ax : α → Act → World → Nat → Prop) (hAx : ∀ x a' W b W', Ax x a' W b → W'.heap[b]? = W.heap[b]? → Ax x a' W' b)
    (hassign : ∀ (l : Nat) (x : α) (W : World) (K : Act → World → Prop), (∀ a' W' b, Turns (fun _ => False) W W' → W.heap.size ≤ b → b < W'.heap.size → Ax x a' W' b → K a' W') →
      assign.wpIn (Fence.wide.inRound l) n P (Exit.then K (fun _ _ _ => False)) { tmps := (ps.zip (encs x)).foldl (fun t (p, v) => t.setIfInBounds p v) a.tmps, defers := [] } W)
    (hbody : ∀ (l : Nat) (pre : List α) (x : α) (W : World) (U : Nat → Prop) (b : Nat) (a' : Act), I pre U W → pre.length < N → Ax x a' W b → ¬ U b → b < W.heap.size → w.heap.size ≤ b → body.wpIn (Fence.wide.inRound l) n P (postO w.heap.size I Ix (pre ++ [x]) U W) a' W)
    (hdone : ∀ (D : Nat) (xs : List α) (U : Nat → Prop) (W : World), w.heap.size ≤ D → ¬ U D → S xs → I xs U W → W.heap[D]? = some (.deferred (some [])) → Q .normal { a with defers := { target := .collected D, args := #[] } :: a.defers } W)
    (hstop : ∀ (D : Nat) (c : Code) (pre : List α) (U : Nat → Prop) (W : World), w.heap.size ≤ D → ¬ U D → Sp pre → Ix c pre U W → W.heap[D]? = some (.deferred (some [])) → c.wpIn Fence.wide n P Q { a with defers := { target := .collected D, args := #[] } :: a.defers } W)
    (hU0 : ∀ k, U0 k → k < w.heap.size) :
    (Code.rangeFunc g ps assign body).wpIn Fence.wide n P Q a w := by
  refine wpIn_rangeFunc ?_
  intro fn hfn
  obtain ⟨rec, hrec⟩ : ∃ rec : LoopState → Option Code → Loop, rec = fun st pe => { state := st, pending := pe, fn, tmps := a.tmps, params := ps, assign, body, defers := w.heap.size } := ⟨_, rfl⟩
  obtain ⟨W1, hW1⟩ : ∃ W1, (w.alloc (.deferred (some []))).alloc (.loop (rec .ready none)) = W1 := ⟨_, rfl⟩
  have hL1 : W1.heap[w.heap.size + 1]? = some (.loop (rec .ready none)) := by
    rw [← hW1]; have := World.alloc_heap_new (w.alloc (.deferred (some []))) (.loop (rec .ready none)); rwa [World.size_alloc] at this
  have hK1 : W1.heap[w.heap.size]? = some (.deferred (some [])) := by
    rw [← hW1]; exact (Below.heap_alloc _ _ _ (by simp)).trans (World.alloc_heap_new w _)
  have hbw1 : Below w.heap.size w W1 := by
    rw [← hW1]; exact ((Below.refl _ w).alloc (Nat.le_refl _) _).alloc (by simp) _
  have hs1 : W1.heap.size = w.heap.size + 2 := by rw [← hW1]; simp
  have hI1 : I [] U0 W1 := hI [] U0 w W1 h0 (.of_below hbw1 _)
  have hb1 : Below w0.heap.size w0 W1 := hb0.trans (hbw1.mono hb0.size)
  refine ⟨w.heap.size + 1, [{ target := .collected w.heap.size, args := #[] }], W1, { target := .fn (.func gf) lb, args := #[.func (.yield (w.heap.size + 1)) #[] #[]] }, W1, gf,
    #[.func (.yield (w.heap.size + 1)) #[] #[]] ++ lb, W1, ?_, ?_, ?_, ?_, fun h => by simp [Fence.wide] at h, ?_⟩
  · rw [← hW1, hrec]; exact run_enterLoop_outer _ _ _ _ _
  · simp only [resolve, hg]
    simp [go_sem]
  · intro f' hf'; trivial
  · simp [invoke, go_sem, eg]
  · obtain ⟨L, hL⟩ : ∃ L, L = w.heap.size + 1 := ⟨_, rfl⟩
    rw [← hL] at hL1 ⊢
    have hab : ∀ (X : List α → (Nat → Prop) → World → Prop) (st : List α → World → Prop), Stays w.heap.size X → (∀ pre A B, st pre A → (L < A.heap.size → B.heap[L]? = A.heap[L]?) → st pre B) →
        Stays W1.heap.size (fun (pre : List α) (V : Nat → Prop) (W : World) => ∃ U, (∀ k, V k ↔ U k ∨ k = L) ∧ X pre U W ∧ (∀ k, U k → k < W.heap.size ∧ (w0.heap.size ≤ k ∨ E k) ∧ k ≠ L ∧ k ≠ w.heap.size) ∧ st pre W ∧ W.heap[w.heap.size]? = some (.deferred (some []))) := by
      intro X st hX hst pre V A B ⟨U, hV, hx, hu, hs, hk⟩ ht
      refine ⟨U, hV, hX pre U A B hx (ht.mono fun k hk _ => ⟨by have : W1.heap.size ≤ k := hk.1; omega, fun h => hk.2 ((hV k).2 (.inl h))⟩), fun k hk => ⟨Nat.lt_of_lt_of_le (hu k hk).1 ht.size, (hu k hk).2⟩, hst pre A B hs ?_, ?_⟩
      · intro hl
        exact ht.block L hl (fun h => h.2 ((hV L).2 (.inr rfl)))
      · exact (ht.block _ (Array.getElem?_eq_some_iff.1 hk).1 (fun h => by have : W1.heap.size ≤ w.heap.size := h.1; omega)).trans hk
    refine CallsIn.mono (h := ?_) (hr := ?_) (R := fun e W' => (∃ v, e = .returned v) ∧ ((∃ xs U', S xs ∧ (fun (pre : List α) (V : Nat → Prop) (W : World) => ∃ U : Nat → Prop, (∀ k, V k ↔ U k ∨ k = L) ∧ I pre U W ∧ (∀ k, U k → k < W.heap.size ∧ (w0.heap.size ≤ k ∨ E k) ∧ k ≠ L ∧ k ≠ w.heap.size) ∧ W.heap[L]? = some (.loop (rec .ready none)) ∧ W.heap[w.heap.size]? = some (.deferred (some []))) xs U' W') ∨
      (∃ pre U', Sp pre ∧ (fun (pre : List α) (U : Nat → Prop) (W : World) => ∃ c, Ix c pre U W ∧ (∀ k, U k → k ≠ L ∧ k ≠ w.heap.size) ∧ W.heap[L]? = some (.loop (rec .done (some c))) ∧ W.heap[w.heap.size]? = some (.deferred (some []))) pre U' W')))
    · have hcall := hseq (n - 1) L
        (fun (pre : List α) (V : Nat → Prop) (W : World) => ∃ U, (∀ k, V k ↔ U k ∨ k = L) ∧ I pre U W ∧ (∀ k, U k → k < W.heap.size ∧ (w0.heap.size ≤ k ∨ E k) ∧ k ≠ L ∧ k ≠ w.heap.size) ∧ W.heap[L]? = some (.loop (rec .ready none)) ∧ W.heap[w.heap.size]? = some (.deferred (some [])))
        (fun (pre : List α) (U : Nat → Prop) (W : World) => ∃ c, Ix c pre U W ∧ (∀ k, U k → k ≠ L ∧ k ≠ w.heap.size) ∧ W.heap[L]? = some (.loop (rec .done (some c))) ∧ W.heap[w.heap.size]? = some (.deferred (some [])))
        W1 (fun k => U0 k ∨ k = L) hb1 (hab I (fun _ W => W.heap[L]? = some (.loop (rec .ready none))) hI (fun _ A B h he => (he (Array.getElem?_eq_some_iff.1 h).1).trans h)) ?_ ?_ ?_
      · exact callsIn_wide.2 (callsIn_wide.1 hcall)
      · rintro pre V W ⟨U, hV, hi, hu, hl, hk⟩ k hk'
        rcases (hV k).1 hk' with h | rfl
        · exact ⟨(hu k h).1, (hu k h).2.1⟩
        · exact ⟨(Array.getElem?_eq_some_iff.1 hl).1, .inl (by have := hb0.size; omega)⟩
      · rintro pre x W V ⟨U, hV, hi, hu, hl, hk⟩ hlen
        have hlt : L < W.heap.size := (Array.getElem?_eq_some_iff.1 hl).1
        have hy := run_yield (P := P) (args := encs x) hl (by rw [hrec]; exact hps x)
        rw [hrec] at hy
        refine ⟨fn, _, assign, body, hy, ?_⟩
        have hRI : RoundIn Fence.wide n P L fn _ assign body W _ := roundIn_of_wpIn hfn (hassign L x W _ ?_) (R := fun e W2 => (e = .returned (.bool true) ∧ ∃ U2 : Nat → Prop, (∃ U : Nat → Prop, (∀ k, U2 k ↔ U k ∨ k = L) ∧ I (pre ++ [x]) U W2 ∧ (∀ k, U k → k < W2.heap.size ∧ (w0.heap.size ≤ k ∨ E k) ∧ k ≠ L ∧ k ≠ w.heap.size) ∧ W2.heap[L]? = some (.loop (rec .ready none)) ∧ W2.heap[w.heap.size]? = some (.deferred (some []))) ∧ Turns V W W2 ∧ ∀ k, U2 k → V k ∨ W.heap.size ≤ k) ∨
          (e = .returned (.bool false) ∧ ∃ U2 : Nat → Prop, ∃ c, Ix c (pre ++ [x]) U2 W2 ∧ (∀ k, U2 k → k ≠ L ∧ k ≠ w.heap.size) ∧ W2.heap[L]? = some (.loop (rec .done (some c))) ∧ W2.heap[w.heap.size]? = some (.deferred (some []))))
        · exact ⟨hRI.1, fun c cs hr => hRI.2 c cs (room_wide _)⟩
        · intro a' Wa b hta hba hbl hax
          have hla : Wa.heap[L]? = some (.loop (rec .ready none)) := (hta.block L hlt (fun h => h)).trans hl
          have hka : Wa.heap[w.heap.size]? = some (.deferred (some [])) := (hta.block _ (Array.getElem?_eq_some_iff.1 hk).1 (fun h => h)).trans hk
          refine ⟨_, run_beginRound hla (by rw [hrec]), ?_⟩
          obtain ⟨Wb, hWb⟩ : ∃ Wb, Wb = Wa.putObj L (.loop { rec .ready none with state := .busy }) := ⟨_, rfl⟩
          have hbL : b ≠ L := by omega
          have htb : Turns (fun k => k = L) Wa Wb := by rw [hWb]; exact Turns.putObj _ _ _
          have hsb : Wb.heap.size = Wa.heap.size := by rw [hWb]; simp
          have hlb : Wb.heap[L]? = some (.loop { rec .ready none with state := .busy }) := by rw [hWb]; exact World.putObj_heap_same (by have := hta.size; omega)
          have hkb : Wb.heap[w.heap.size]? = some (.deferred (some [])) := (htb.block _ (by have := hta.size; omega) (by omega)).trans hka
          have hUL : ¬ U L := fun h => (hu L h).2.2.1 rfl
          have hIb : I pre U Wb := hI pre U W Wb hi ((hta.mono (U' := fun k => w.heap.size ≤ k ∧ ¬ U k) (fun _ h _ => h.elim)).trans htb (fun k h _ => by subst h; exact ⟨by omega, hUL⟩))
          rw [← hWb]
          refine wpIn_mono (hbody L pre x Wb U b a' hIb hlen (hAx x a' Wa b Wb hax (htb.block b hbl hbL)) (fun h => by have := (hu b h).1; omega) (by omega) (by have := hta.size; omega)) ?_
          have fin : ∀ (jump : Option Code) (W3 : World), Turns (fun k => U k ∨ k < w.heap.size) Wb W3 →
              (Instr.endRound L jump).run P W3 = .ok (.bool jump.isNone) (W3.putObj L (.loop (rec (if jump.isNone then .ready else .done) jump))) ∧
              (W3.putObj L (.loop (rec (if jump.isNone then .ready else .done) jump))).heap[L]? = some (.loop (rec (if jump.isNone then .ready else .done) jump)) ∧
              (W3.putObj L (.loop (rec (if jump.isNone then .ready else .done) jump))).heap[w.heap.size]? = some (.deferred (some [])) := fun jump W3 ht3 => by
            have hl3 : W3.heap[L]? = some (.loop { rec .ready none with state := .busy }) := (ht3.block L (by omega) (fun h => h.elim hUL (fun h => by omega))).trans hlb
            have hk3 : W3.heap[w.heap.size]? = some (.deferred (some [])) := (ht3.block _ (Array.getElem?_eq_some_iff.1 hkb).1 (fun h => h.elim (fun h => (hu _ h).2.2.2 rfl) (fun h => by omega))).trans hkb
            have hr := run_endRound (P := P) jump hl3
            rw [hrec] at hr ⊢
            refine ⟨hr, World.putObj_heap_same (Array.getElem?_eq_some_iff.1 hl3).1, (World.putObj_heap_other (by omega)).trans hk3⟩
          have fresh : ∀ {X : List α → (Nat → Prop) → World → Prop} (W3 : World) (U' : Nat → Prop) (o : Obj), Turns (fun k => U k ∨ k < w.heap.size) Wb W3 → X (pre ++ [x]) U' W3 → Stays w.heap.size X → (∀ k, U' k → U k ∨ Wb.heap.size ≤ k) →
              X (pre ++ [x]) U' (W3.putObj L o) ∧ (∀ k, U' k → k ≠ L ∧ k ≠ w.heap.size) := fun {X} W3 U' o ht3 hx hX hsub => by
            have hne : ∀ k, U' k → k ≠ L ∧ k ≠ w.heap.size := fun k hk => by
              rcases hsub k hk with h | h
              · exact (hu k h).2.2
              · have := hta.size; constructor <;> omega
            exact ⟨hX _ _ _ _ hx ((Turns.putObj W3 L o).mono fun k h _ => ⟨by omega, fun h' => (hne k h').1 h⟩), hne⟩
          rintro e a3 W3 hp
          cases e with
          | normal =>
            obtain ⟨ht3, U', hi3, hsub⟩ := hp
            obtain ⟨hr, hl4, hk4⟩ := fin none W3 (ht3.mono (fun k h _ => .inl h))
            obtain ⟨hi4, hne⟩ := fresh W3 U' (.loop (rec .ready none)) (ht3.mono (fun k h _ => .inl h)) hi3 hI hsub
            have htt : Turns (fun k => U k ∨ k = L) W (W3.putObj L (.loop (rec .ready none))) := by
              have h1 : Turns (fun k => U k ∨ k = L) W Wb := (hta.mono (fun _ h _ => h.elim)).trans htb (fun k h _ => .inr h)
              have h2 : Turns (fun k => U k ∨ k = L) W W3 := h1.trans ht3 (fun k h _ => .inl h)
              exact h2.trans (Turns.putObj _ _ _) (fun k h _ => .inr h)
            refine ⟨_, _, hr, .inl ⟨rfl, fun k => U' k ∨ k = L, ⟨U', fun k => Iff.rfl, hi4, fun k hk => ⟨by have := (hU _ _ _ hi3 k hk).1; simpa using this, (hU _ _ _ hi3 k hk).2, hne k hk⟩, hl4, hk4⟩, htt.mono (fun k h _ => (hV k).2 h), fun k hk => ?_⟩⟩
            rcases hk with h | h
            · rcases hsub k h with h | h
              · exact .inl ((hV k).2 (.inl h))
              · exact .inr (by have := hta.size; omega)
            · exact .inl ((hV k).2 (.inr h))
          | ret =>
            obtain ⟨ht3, U', hi3, hsub⟩ := hp
            obtain ⟨hr, hl4, hk4⟩ := fin (some .ret) W3 ht3
            obtain ⟨hi4, hne⟩ := fresh W3 U' (.loop (rec .done (some .ret))) ht3 hi3 (hIx _) hsub
            exact ⟨_, _, hr, .inr ⟨rfl, U', .ret, hi4, hne, hl4, hk4⟩⟩
          | exit id =>
            obtain ⟨ht3, U', hi3, hsub⟩ := hp
            obtain ⟨hr, hl4, hk4⟩ := fin (some (.exit id)) W3 ht3
            obtain ⟨hi4, hne⟩ := fresh W3 U' (.loop (rec .done (some (.exit id)))) ht3 hi3 (hIx _) hsub
            exact ⟨_, _, hr, .inr ⟨rfl, U', .exit id, hi4, hne, hl4, hk4⟩⟩
          | goto t =>
            obtain ⟨ht3, U', hi3, hsub⟩ := hp
            obtain ⟨hr, hl4, hk4⟩ := fin (some (.goto t)) W3 ht3
            obtain ⟨hi4, hne⟩ := fresh W3 U' (.loop (rec .done (some (.goto t)))) ht3 hi3 (hIx _) hsub
            exact ⟨_, _, hr, .inr ⟨rfl, U', .goto t, hi4, hne, hl4, hk4⟩⟩
          | panic ch => exact hp.elim
          | outgrown => exact hp.elim
      · exact ⟨U0, fun k => Iff.rfl, hI1, fun k hk => ⟨by have := hU0 k hk; omega, (hU _ _ _ h0 k hk).2, by have := hU0 k hk; omega, by have := hU0 k hk; omega⟩, hL1, hK1⟩
    · rintro e W2 ⟨⟨v, rfl⟩, (⟨xs, V, hS, U, hV, hi, hu, hl, hk⟩ | ⟨pre, U, hSp, c, hi, hne, hl, hk⟩)⟩
      · refine ⟨none, _, by have := run_endLoop (P := P) hl (by rw [hrec]; simp); rw [hrec] at this; exact this, ?_⟩
        exact hdone _ xs U _ (Nat.le_refl _) (fun h => (hu _ h).2.2.2 rfl) hS (hI _ _ _ _ hi ((Turns.putObj W2 L _).mono fun k h _ => ⟨by omega, fun h' => (hu k h').2.2.1 h⟩)) ((World.putObj_heap_other (by omega)).trans hk)
      · refine ⟨some c, _, by have := run_endLoop (P := P) hl (by rw [hrec]; simp); rw [hrec] at this; exact this, ?_⟩
        exact hstop _ c pre U _ (Nat.le_refl _) (fun h => (hne _ h).2 rfl) hSp ((hIx c) _ _ _ _ hi ((Turns.putObj W2 L _).mono fun k h _ => ⟨by omega, fun h' => (hne k h').1 h⟩)) ((World.putObj_heap_other (by omega)).trans hk)
end Go.Proofs.Ytcgioboiebanpaa

namespace Go.Proofs.Ytcgioboiebanpaa
open Go.RowKit Go.Maps
set_option linter.unusedVariables false
attribute [local go_sem] Oper.semAt_some
theorem semAt_run (r : Option Nat) (ρ : Operand → Value) (o : Oper) (P : Program) (w : World) (h : ∀ c, o.op ≠ .defer c) : (o.semAt r ρ).run P w = (execOp ρ o).run P w := by
  rw [Oper.semAt_eq r ρ o h]
attribute [local go_sem ↓] semAt_run

abbrev ZR := RV × MR
/-- How many live elements there are. -/
def liveN (zs : List ZR) : Nat := (zs.map fun z => if z.2.2.2 = true then 0 else z.2.2.1.length).sum
/-- The live runs, each with how many live elements stand ahead. -/
def livesZ : Nat → List ZR → List (Nat × ZR)
  | _, [] => []
  | n, z :: zs => if z.2.2.2 = true then livesZ n zs else (n, z) :: livesZ (n + z.2.2.1.length) zs
theorem liveN_cons (z : ZR) (zs : List ZR) : liveN (z :: zs) = (if z.2.2.2 = true then 0 else z.2.2.1.length) + liveN zs := by simp [liveN]
theorem liveN_append (a b : List ZR) : liveN (a ++ b) = liveN a + liveN b := by simp [liveN]
theorem livesZ_snoc (z : ZR) : ∀ (zs : List ZR) (n : Nat), livesZ n (zs ++ [z]) = livesZ n zs ++ (if z.2.2.2 = true then [] else [(n + liveN zs, z)])
  | [], n => by simp [livesZ, liveN]
  | y :: zs, n => by
    simp only [List.cons_append, livesZ]
    split
    · rename_i h
      rw [livesZ_snoc z zs n, liveN_cons, if_pos h, Nat.zero_add]
    · rename_i h
      rw [livesZ_snoc z zs _, liveN_cons, if_neg h, List.cons_append, Nat.add_assoc]
theorem livesZ_len : ∀ (zs : List ZR) (n : Nat), (livesZ n zs).length ≤ zs.length
  | [], n => by simp [livesZ]
  | z :: zs, n => by
    simp only [livesZ]
    split
    · exact Nat.le_succ_of_le (livesZ_len zs n)
    · simpa using livesZ_len zs _
/-- What the iterator gives: a count, and a run of the document. -/
abbrev LV (zs : List ZR) := { p : Nat × ZR // p.2 ∈ zs }
def encL {zs : List ZR} (p : LV zs) : Array Value := #[.int .i64 (p.1.1 : Int), .agg (runB p.1.2.1)]
def valsL {zs : List ZR} (l : List (LV zs)) : List (Nat × ZR) := l.map (·.1)

/-- Blocks that a document does not stand on. -/
def Free (w : World) (d : Nat) (v : Value) (E : Nat → Prop) : Prop := ∀ k, E k → k ≠ d ∧ v.ownBlock ≠ some k ∧ ∀ cur, w.heap[k]? ≠ some (.cells cur 21 (0, 0))
theorem Doc.turns {w w' : World} {d : Nat} {v : Value} {zs : List ZR} {size live : Int} {E : Nat → Prop} (h : Doc w d v zs size live) (ht : Turns E w w') (hE : Free w d v E) : Doc w' d v zs size live := by
  have hk : KeepN w w' := fun k cur hc => (ht.block k (Array.getElem?_eq_some_iff.1 hc).1 (fun he => (hE k he).2.2 cur hc)).trans hc
  refine ⟨(ht.block d h.lt (fun he => (hE d he).1 rfl)).trans h.cells, row_keep h.row (fun g hg => ?_), fun z hz => (h.tells z hz).keep hk⟩
  obtain ⟨_, cur, hc⟩ := row_own h.row hg
  exact ht.block g (Array.getElem?_eq_some_iff.1 hc).1 (fun he => (hE g he).2.1 hg)
theorem Free.below {w w' : World} {d : Nat} {v : Value} {E : Nat → Prop} (h : Free w d v E) (hE : ∀ k, E k → k < w.heap.size) (hb : Below w.heap.size w w') : Free w' d v E :=
  fun k hk => ⟨(h k hk).1, (h k hk).2.1, fun cur hc => (h k hk).2.2 cur (by rw [← hb.block k (hE k hk)]; exact hc)⟩
set_option maxHeartbeats 4000000 in
set_option maxRecDepth 100000 in
theorem lives1_any (bd d : Nat) (v : Value) (zs : List ZR) (size live : Int) (w : World) (hbd : bd < w.heap.size) (hcell : w.cell? ⟨bd, 0, none⟩ = some (.pointer (some ⟨d, 0, none⟩))) (hz : zs.length ≤ 10000) (hlv : liveN zs ≤ 1000000) (h : Doc w d v zs size live) (E : Nat → Prop) (hE : Free w d v E) :
    SeqO Try.prog 50 #[.pointer (some ⟨bd, 0, none⟩)] (encL (zs := zs)) (fun l => valsL l = livesZ 0 zs) (fun l => ∃ j z, zs[j]? = some z ∧ z.2.2.2 = false ∧ valsL l = livesZ 0 (zs.take (j + 1))) zs.length w E := by
  have HE := Lib.hid hE
  intro n l J Jx W U hW hJ hU hY h0
  refine callsIn_wide.2 ?_
  have e0 : W.cell? ⟨bd, 0, none⟩ = some (.pointer (some ⟨d, 0, none⟩)) := (hW.cell (p := ⟨bd, 0, none⟩) hbd).trans hcell
  have HD0 := Lib.hid h
  have HD := Lib.hid (h.below hW)
  obtain ⟨a, cap, hv, hin⟩ := h.slice
  rw [List.length_map] at hv
  have HIN0 := Lib.hid hin
  obtain ⟨L, hL⟩ : ∃ L, L = zs.length := ⟨_, rfl⟩
  rw [← hL] at hv hz
  have e1 : W.cell? ⟨d, 0, none⟩ = some (.slice a L cap) := by rw [Lib.cell_of_heap HD.out.cells, hv]; rfl
  have HDL := Lib.hid h.lt
  have HBL := Lib.hid (show ∀ g, v.ownBlock = some g → g < w.heap.size from fun g hg => by
    obtain ⟨_, cur, hh⟩ := row_own h.row hg
    exact (Array.getElem?_eq_some_iff.1 hh).1)
  have HL := Lib.hid hL
  have HJ := Lib.hid hJ
  have HU := Lib.hid hU
  have HY := Lib.hid hY
  have H0 := Lib.hid h0
  have HWB := Lib.hid hW
  have HLV := Lib.hid hlv
  have HV := Lib.hid hv
  clear hJ hU hY h0 hW h hin hL hv hbd hcell hlv
  have hL4 : L ≤ 10000 := hz
  go_enter Try.func50, Try.ntmps50
  go_wp2_with fail
  clear e0 e1
  go_loopg [3, 13] L (fun g v3 v13 wr => ∃ (j : Nat) (xs : List (LV zs)) (V : Nat → Prop), g + j = L ∧ v3 = .int .i64 (liveN (zs.take j) : Nat) ∧ v13 = .int .i64 j ∧ valsL xs = livesZ 0 (zs.take j) ∧ J xs V wr ∧ Turns E w wr)
  case atStart => exact ⟨0, [], U, by omega, rfl, rfl, by simp [valsL, livesZ], H0.out, .of_below HWB.out _⟩
  case round =>
    obtain ⟨j, xs, V, hg, rfl, rfl, hxs, hj, hbw⟩ := hrel
    have HG := Lib.hid hg
    have HXS := Lib.hid hxs
    have HJS := Lib.hid hj
    have HBW := Lib.hid hbw
    clear hg hxs hj hbw
    by_cases hjl : j < L
    · have i1 : (j : Int) < (L : Int) := by omega
      have hjz : j < zs.length := by have := HL.out; omega
      have HDR := Lib.hid (show Doc wr d v zs size live from HD0.out.turns HBW.out HE.out)
      obtain ⟨a', cap', hv', hin'⟩ := HDR.out.slice
      rw [HV.out] at hv'
      injection hv' with q1 q2 q3
      rw [← q1] at hin'
      clear q1 q2 q3
      rcases hin'.2 with h | ⟨b, off, hab, hlt, hc⟩
      · rw [List.map_eq_nil_iff] at h; subst h; simp at hjz
      subst hab
      have hxx : (zs.map (·.1))[j]? = some zs[j].1 := by simp [hjz]
      have hat := hc j _ hxx
      have HTL := Lib.hid (HDR.out.tells zs[j] (List.getElem_mem hjz))
      have HMEM := Lib.hid (List.getElem_mem hjz)
      have HZJ := Lib.hid (show zs[j]? = some zs[j] by simp [hjz])
      have HTK := Lib.hid (show zs.take (j + 1) = zs.take j ++ [zs[j]] from List.take_succ_eq_append_getElem hjz)
      generalize zs[j] = z at *
      obtain ⟨x, r⟩ := z
      simp only at hxx hat HTL
      have HX32 := Lib.hid (show x.1.2.1.length = 32 by rw [HTL.out.key]; exact HTL.out.k32)
      have e1 : fits wr ⟨b, off + j * 36, none⟩ 36 := hat.1
      have e2 : aggAt wr ⟨b, off + j * 36, none⟩ 36 = runB x := by
        have h3 : (aggAt wr ⟨b, off + j * 36, none⟩ 36) = (runR.enc x).toArray := hat.2
        rw [h3]; rfl
      have q7 : b < wr.heap.size := hlt
      clear hat hc hxx hlt
      go_upto_region 5 with (refine wpList_store_blk 70 36 (by kernel_rfl) rfl _ _ rfl wr.heap.size (runB x) (runB_size x HX32.out) (run_one x) rfl rfl _ (MapKept.heap_alloc wr _).1 (by rfl) ?_)
      intro w2 s1 s2 s3
      have hw2 : Below wr.heap.size wr w2 := ((Below.refl wr.heap.size wr).alloc (Nat.le_refl _) _).trans ⟨s3.os, s3.tape, s3.output, s3.size, fun j hj => s3.block j (by simp; omega) (by simp; omega)⟩
      have HW2 := Lib.hid hw2
      have HB2 := Lib.hid (show Turns E w w2 from HBW.out.trans (Turns.of_below hw2 (fun _ => False)) (fun _ h _ => h.elim))
      have hj2 : J xs V w2 := HJ.out xs V wr w2 HJS.out (.of_below hw2 _)
      have HJ2 := Lib.hid hj2
      obtain ⟨b9, hb9⟩ : ∃ b, b = wr.heap.size := ⟨_, rfl⟩
      have HB9 := Lib.hid hb9
      rw [← hb9] at s1 ⊢
      have hra := RunAt.of HX32.out (blk_ld s1 (runB_size x HX32.out)).1 (blk_ld s1 (runB_size x HX32.out)).2
      have f1 := (blk_ld s1 (runB_size x HX32.out)).1
      have f2 := (blk_ld s1 (runB_size x HX32.out)).2
      have e3 := hra.d
      simp only [Nat.zero_add] at e3
      rw [HTL.out.dead] at e3
      have HS1 := Lib.hid s1
      have HLS := Lib.hid (show liveN (zs.take (j + 1)) = liveN (zs.take j) + (if r.2.2 = true then 0 else r.2.1.length) by rw [HTK.out, liveN_append]; simp [liveN])
      have HLZ := Lib.hid (show livesZ 0 (zs.take (j + 1)) = livesZ 0 (zs.take j) ++ (if r.2.2 = true then [] else [(0 + liveN (zs.take j), (x, r))]) by rw [HTK.out, livesZ_snoc])
      clear hj2 s1 s2 s3 e1 e2 q7 hb9 hra hw2
      obtain ⟨dd, hdd⟩ : ∃ dd, dd = r.2.2 := ⟨_, rfl⟩
      rw [← hdd] at e3 HLS HLZ
      have HDD := Lib.hid hdd
      clear hdd
      cases dd with
      | true =>
        clear f1 f2
        go_wp2
        go_roundg (gk - 1)
        case measure => have := HG.out; omega
        case rel => exact ⟨j + 1, xs, V, by have := HG.out; omega, by rw [HLS.out]; rfl, by go_num, by rw [HLZ.out, HXS.out]; simp, HJ2.out, HB2.out⟩
      | false =>
        have hlen9 : xs.length < zs.length := by
          have h1 := congrArg List.length HXS.out
          have h2 := livesZ_len (zs.take j) 0
          rw [List.length_take] at h2
          have h3 : (valsL xs).length = xs.length := by simp [valsL]
          have h4 := (List.getElem?_eq_some_iff.1 HZJ.out).1
          omega
        obtain ⟨C, hC⟩ : ∃ C, C = liveN (zs.take j) := ⟨_, rfl⟩
        have HC := Lib.hid hC
        rw [← hC]
        obtain ⟨fn, tmps, assign, body, hy, hR⟩ := HY.out xs ⟨(C, (x, r)), HMEM.out⟩ w2 V HJ2.out hlen9
        change (Instr.yield l #[.int .i64 (C : Int), .agg (runB x)]).run Try.prog _ = _ at hy
        have HVL := Lib.hid (fun k hk => (HU.out xs V w2 HJ2.out k hk))
        have hcb : C + r.2.1.length ≤ 1000000 := by
          have h1 : zs.take (j + 1) ++ zs.drop (j + 1) = zs := List.take_append_drop _ _
          have h2 := congrArg liveN h1
          rw [liveN_append, HLS.out] at h2
          have := HLV.out
          simp only [Bool.false_eq_true, if_false] at h2
          omega
        have HCB := Lib.hid hcb
        clear hlen9 hC hcb
        go_upto_region 6 with fail
        refine (wpIn_wide (n := n + 1)).1 ?_
        gi_wp2
        refine hR.mono ?_
        clear hR hy f1 f2
        rintro e W3 (⟨rfl, V', hj3, ht3, hsub⟩ | ⟨rfl, V', hjx⟩)
        · have HJ3 := Lib.hid hj3
          have hb93 : W3.heap[b9]? = some (.cells (runB x) 70 (0, 0)) := (ht3.block b9 (Array.getElem?_eq_some_iff.1 HS1.out).1 (fun h => by have := (HU.out xs V wr HJS.out b9 h).1; have := HB9.out; omega)).trans HS1.out
          have e5 := (RunAt.of HX32.out (blk_ld hb93 (runB_size x HX32.out)).1 (blk_ld hb93 (runB_size x HX32.out)).2).r
          rw [Nat.zero_add, HTL.out.len] at e5
          have hcb := HCB.out
          have i3 : IntKind.i64.wrap ((C : Int) + (r.2.1.length : Int)) = (C : Int) + (r.2.1.length : Int) := IntWalk.i64_in _ (by omega)
          have HB3 := Lib.hid (show Turns E w W3 from HB2.out.trans ht3 (fun k h hk => (HVL.out k h).2.elim (fun h2 => by omega) id))
          clear hj3 ht3 hsub hb93 hcb
          gi_wp2
          go_wp2
          go_roundg (gk - 1)
          case measure => have := HG.out; omega
          case rel => exact ⟨j + 1, xs ++ [⟨(C, (x, r)), HMEM.out⟩], V', by have := HG.out; omega, by rw [HLS.out, ← HC.out]; simp, by go_num, by rw [HLZ.out, ← HXS.out, ← HC.out]; simp [valsL], HJ3.out, HB3.out⟩
        · have HJX := Lib.hid hjx
          clear hjx
          gi_wp2
          go_wp2
          refine bodyPost_ret (results_none rfl _ _ _) rfl ?_
          exact ⟨⟨_, rfl⟩, .inr ⟨_, V', ⟨j, (x, r), HZJ.out, HDD.out.symm, by rw [HLZ.out, ← HXS.out, ← HC.out]; simp [valsL]⟩, HJX.out⟩⟩
    · have hjL : ¬ (j : Int) < (L : Int) := by omega
      have HE := Lib.hid (show zs.take j = zs from List.take_of_length_le (by have := HL.out; omega))
      go_wp2
      go_end0
      exact ⟨⟨_, rfl⟩, .inl ⟨xs, by rw [HXS.out, HE.out], V, HJS.out⟩⟩
end Go.Proofs.Ytcgioboiebanpaa
