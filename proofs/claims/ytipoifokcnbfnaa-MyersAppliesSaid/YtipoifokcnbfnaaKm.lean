/- The words of list's drawn region. -/
import Derived.Test.YtipoifokcnbfnaaKk
namespace Go.Proofs.Ytipoifokcnbfnaa
open Go.RowKit
set_option linter.unusedVariables false

/-- What holds up to the store. -/
structure P0L (K : Nat) (W0 : WW) (s m : Nat) (a b : List Int) (pa pb : Option Addr) (ca cb n N : Nat) (D : DataW Unit) (q F : Nat) (hs : List (Option Addr × Nat × Nat)) (blk : Value) (w : World) : Prop where
  sz : K ≤ w.heap.size
  st : St W0 w s m a b pa pb ca cb blk (F : Int)
  mp : w.ownsMap Try.prog 3 slR m n D
  sv : Saved w W0.o.heap.size a b D N
  rs : Rows w W0.o.heap.size a b q hs
section
variable {K : Nat} {W0 : WW} {s m : Nat} {a b : List Int} {pa pb : Option Addr} {ca cb n N : Nat} {D : DataW Unit} {q F : Nat} {hs : List (Option Addr × Nat × Nat)} {blk : Value} {w w' : World}
theorem P0L.below (h : P0L K W0 s m a b pa pb ca cb n N D q F hs blk w) (hb : Below w.heap.size w w') : P0L K W0 s m a b pa pb ca cb n N D q F hs blk w' :=
  ⟨Nat.le_trans h.sz hb.size, h.st.below hb, own_below h.mp hb, h.sv.kept (KeptT.of_below hb), h.rs.kept (KeptT.of_below hb)⟩
theorem P0L.app (h : P0L K W0 s m a b pa pb ca cb n N D q F hs blk w) (hrow : hdrR.row 22 W0.o.heap.size hs blk w) (hg : w.grownBy w' blk.ownBlock) : P0L K W0 s m a b pa pb ca cb n N D q F hs blk w' := by
  have hk : KeptT 21 w w' := KeptT.grown (e' := 0) hg (row_tag hrow (by decide))
  refine ⟨Nat.le_trans h.sz hg.size, h.st.grown hg (fun g e => (row_block hrow g e).1) (fun e => ?_) (row_tag hrow (by decide)), h.mp.kept hg (fun e => ?_), h.sv.kept hk, h.rs.kept hk⟩
  · have h1 := h.st.at'
    obtain ⟨_, cur, h2⟩ := row_block hrow s e
    rw [h1] at h2
    injection h2 with h3
    injection h3 with _ h4
    cases h4
  · obtain ⟨es, clock, h1, _⟩ := h.mp
    obtain ⟨_, cur, h2⟩ := row_block hrow m e.symm
    rw [h1] at h2
    cases h2
def PrL (K : Nat) (W0 : WW) (s m : Nat) (a b : List Int) (pa pb : Option Addr) (ca cb n N : Nat) (D : DataW Unit) (q F : Nat) (hs : List (Option Addr × Nat × Nat)) (blk : Value) (ad : Addr) (hv : Value) (j : Nat) (w : World) : Prop :=
  (j ≤ 27 ∨ j = 30 → P0L K W0 s m a b pa pb ca cb n N D q F hs blk w) ∧ (j = 27 → hdrR.row 22 W0.o.heap.size hs blk w) ∧ (j = 24 → w.cell? ad = some hv)
def RL (K : Nat) (W0 : WW) (s m : Nat) (a b : List Int) (pa pb : Option Addr) (ca cb n N : Nat) (D : DataW Unit) (q F : Nat) (hs : List (Option Addr × Nat × Nat)) (blk : Value) (bg : Nat) (ad : Addr) (hv : Value) (j : Nat) (w w' : World) : Prop :=
  if j ≤ 26 ∨ j = 28 ∨ j = 29 then Below w.heap.size w w'
  else if j = 27 then (P0L K W0 s m a b pa pb ca cb n N D q F hs blk w → P0L K W0 s m a b pa pb ca cb n N D q F hs blk w') ∧ (w.cell? ad = some hv → w'.cell? ad = some hv) ∧ w.grownBy w' (some bg)
  else if j = 30 then ∃ x, w' = w.setCell ⟨s, 3, none⟩ x
  else False
variable {bg : Nat} {ad : Addr} {hv : Value} {i j : Nat}
theorem cell_lt {w : World} {p : Addr} {v : Value} (h : w.cell? p = some v) : p.block < w.heap.size := by
  unfold World.cell? at h
  split at h
  · rename_i hh; exact (Array.getElem?_eq_some_iff.1 hh).1
  · cases h
theorem RL_b (h : j ≤ 26 ∨ j = 28 ∨ j = 29) (hb : Below w.heap.size w w') : RL K W0 s m a b pa pb ca cb n N D q F hs blk bg ad hv j w w' := by
  unfold RL; rw [if_pos h]; exact hb
theorem RL_set {x : Value} : RL K W0 s m a b pa pb ca cb n N D q F hs blk bg ad hv 30 w (w.setCell ⟨s, 3, none⟩ x) := by
  unfold RL; rw [if_neg (by decide), if_neg (by decide), if_pos rfl]; exact ⟨x, rfl⟩
theorem RL_app (h : P0L K W0 s m a b pa pb ca cb n N D q F hs blk w) (hrow : hdrR.row 22 W0.o.heap.size hs blk w) (hc : w.cell? ad = some hv → w'.cell? ad = some hv) (hg : w.grownBy w' blk.ownBlock) (hb : blk.ownBlock = some bg) :
    RL K W0 s m a b pa pb ca cb n N D q F hs blk bg ad hv 27 w w' := by
  unfold RL; rw [if_neg (by decide), if_pos rfl]
  exact ⟨fun h' => h'.app hrow hg, hc, by rw [← hb]; exact hg⟩
theorem gt30 (i : Nat) (h : i ∉ [0, 1, 2, 3, 4, 5, 6, 7, 8, 9, 10, 11, 12, 13, 14, 15, 16, 17, 18, 19, 20, 21, 22, 23, 24, 25, 26, 27, 29]) (h2 : i ≠ 30) : i = 28 ∨ 30 < i := by
  apply Classical.byContradiction
  intro hn
  have h3 : i < 28 ∨ i = 29 := by omega
  apply h
  rcases h3 with h3 | h3
  · have : [0, 1, 2, 3, 4, 5, 6, 7, 8, 9, 10, 11, 12, 13, 14, 15, 16, 17, 18, 19, 20, 21, 22, 23, 24, 25, 26, 27, 29] = List.range 28 ++ [29] := by decide
    rw [this]; exact List.mem_append_left _ (List.mem_range.2 h3)
  · subst h3; decide
theorem PrL_st (h30 : j = 30 → i = 28 ∨ 30 < i) (hij : i ≠ j) (hp : PrL K W0 s m a b pa pb ca cb n N D q F hs blk ad hv i w) (hr : RL K W0 s m a b pa pb ca cb n N D q F hs blk bg ad hv j w w') : PrL K W0 s m a b pa pb ca cb n N D q F hs blk ad hv i w' := by
  unfold RL at hr
  split at hr
  · exact ⟨fun h => (hp.1 h).below hr, fun h => (hp.2.1 h).below hr, fun h => (hr.cell (cell_lt (hp.2.2 h))).trans (hp.2.2 h)⟩
  · split at hr
    · rename_i h27
      exact ⟨fun h => hr.1 (hp.1 h), fun h => absurd (h.trans h27.symm) hij, fun h => hr.2.1 (hp.2.2 h)⟩
    · split at hr
      · rename_i hj
        have := h30 hj
        exact ⟨fun h => by omega, fun h => by omega, fun h => by omega⟩
      · exact hr.elim
/-- Blocks from K on are kept. -/
def AK (K : Nat) (w w' : World) : Prop := w.heap.size ≤ w'.heap.size ∧ ∀ g, K ≤ g → g < w.heap.size → w'.heap[g]? = w.heap[g]?
theorem RL.ak (hs' : s < K) (hbg : bg < K) (hr : RL K W0 s m a b pa pb ca cb n N D q F hs blk bg ad hv j w w') : AK K w w' := by
  unfold RL at hr
  split at hr
  · exact ⟨hr.size, fun g _ hl => hr.block g hl⟩
  · split at hr
    · exact ⟨hr.2.2.size, fun g hg hl => hr.2.2.block g hl (fun e => by cases e; omega)⟩
    · split at hr
      · obtain ⟨x, rfl⟩ := hr
        exact ⟨by simp, fun g hg _ => Below.heap_setCell w ⟨s, 3, none⟩ x g (by simp only; omega)⟩
      · exact hr.elim
theorem row_ak {α : Type} {R : Rec α} {e : TypeId} {O : List α} {v : Value} {w w' : World} (h : R.row e K O v w) (hk : AK K w w') : R.row e K O v w' := by
  obtain ⟨hok, hl, h | ⟨g, cap, cur, he, hg, hb, hc, hm, hs, ht⟩⟩ := h
  · exact ⟨hok, hl, .inl h⟩
  · exact ⟨hok, hl, .inr ⟨g, cap, cur, he, hg, (hk.2 g hg (Array.getElem?_eq_some_iff.1 hb).1).trans hb, hc, hm, hs, ht⟩⟩
def S25 (K : Nat) (a b : List Int) (E : Nat) (v : Value) (w : World) : Prop := (numR .i32).row 21 K (PL a b E) v w
def S26 (K : Nat) (a b : List Int) (E : Nat) (v : Value) (w : World) : Prop :=
  ∃ gx gv cv, v = .slice (some ⟨gx, 0, none⟩) 1 1 ∧ K ≤ gx ∧ w.heap[gx]? = some (Obj.cells #[.slice (some ⟨gv, 0, none⟩) (E + 1) cv] 22 (0, 0)) ∧ (numR .i32).row 21 K (PL a b E) (.slice (some ⟨gv, 0, none⟩) (E + 1) cv) w
def S27 (K base s : Nat) (a b : List Int) (E : Nat) (hs : List (Option Addr × Nat × Nat)) (v : Value) (w : World) : Prop :=
  ∃ gv cv, hdrR.row 22 base (hs ++ [(some ⟨gv, 0, none⟩, E + 1, cv)]) v w ∧ v.ownBlock ≠ some s ∧ (numR .i32).row 21 K (PL a b E) (.slice (some ⟨gv, 0, none⟩) (E + 1) cv) w
def S30 (W0 : WW) (s m : Nat) (a b : List Int) (pa pb : Option Addr) (ca cb n N : Nat) (D : DataW Unit) (q F E : Nat) (hs : List (Option Addr × Nat × Nat)) (v : Value) (w : World) : Prop :=
  ∃ vb gv cv, St W0 w s m a b pa pb ca cb vb (F : Int) ∧ w.ownsMap Try.prog 3 slR m n D ∧ Saved w W0.o.heap.size a b D N ∧ Rows w W0.o.heap.size a b q hs ∧ hdrR.row 22 W0.o.heap.size (hs ++ [(some ⟨gv, 0, none⟩, E + 1, cv)]) vb w ∧ (numR .i32).row 21 W0.o.heap.size (PL a b E) (.slice (some ⟨gv, 0, none⟩) (E + 1) cv) w
variable {E : Nat} {v : Value}
theorem S25_st (hl : s < K ∧ bg < K) (h : S25 K a b E v w) (hr : RL K W0 s m a b pa pb ca cb n N D q F hs blk bg ad hv j w w') : S25 K a b E v w' := row_ak h (hr.ak hl.1 hl.2)
theorem S26_st (hl : s < K ∧ bg < K) (h : S26 K a b E v w) (hr : RL K W0 s m a b pa pb ca cb n N D q F hs blk bg ad hv j w w') : S26 K a b E v w' := by
  obtain ⟨gx, gv, cv, h1, h2, h3, h4⟩ := h
  exact ⟨gx, gv, cv, h1, h2, ((hr.ak hl.1 hl.2).2 gx h2 (Array.getElem?_eq_some_iff.1 h3).1).trans h3, row_ak h4 (hr.ak hl.1 hl.2)⟩
theorem S27_st {base : Nat} (hl : s < K ∧ bg < K) (hj : j ≠ 27) (h : S27 K base s a b E hs v w) (hr : RL K W0 s m a b pa pb ca cb n N D q F hs blk bg ad hv j w w') : S27 K base s a b E hs v w' := by
  obtain ⟨gv, cv, h1, h2, h3⟩ := h
  refine ⟨gv, cv, ?_, h2, row_ak h3 (hr.ak hl.1 hl.2)⟩
  unfold RL at hr
  split at hr
  · exact h1.below hr
  · split at hr
    · obtain ⟨x, rfl⟩ := hr
      exact ⟨h1.1, h1.2.kept (row := some s) ⟨rfl, rfl, rfl, by simp, fun k _ hk => Below.heap_setCell w ⟨s, 3, none⟩ x k (fun e => hk (by rw [e]))⟩ (.inr h2)⟩
    · exact hr.elim
theorem S25_open (h : S25 K a b E v w) : ∃ gv cv, v = .slice (some ⟨gv, 0, none⟩) (E + 1) cv ∧ (numR .i32).row 21 K (PL a b E) (.slice (some ⟨gv, 0, none⟩) (E + 1) cv) w := by
  obtain ⟨g, cap, he, _⟩ := Rec.row.some (by intro h0; have := PL_len a b E; rw [h0] at this; cases this) h
  rw [PL_len] at he
  subst he
  exact ⟨g, cap, rfl, h⟩
theorem S26_mk {gv cv : Nat} (hsz : K ≤ w.heap.size) (h : (numR .i32).row 21 K (PL a b E) (.slice (some ⟨gv, 0, none⟩) (E + 1) cv) w) : S26 K a b E (.slice (some ⟨w.heap.size, 0, none⟩) 1 1) (w.alloc (.cells #[.slice (some ⟨gv, 0, none⟩) (E + 1) cv] 22)) :=
  ⟨_, gv, cv, rfl, hsz, (MapKept.heap_alloc w _).1, h.below ((Below.refl _ _).alloc (Nat.le_refl _) _)⟩
theorem hdr_one {gx : Nat} {x : Option Addr × Nat × Nat} (h : w.heap[gx]? = some (Obj.cells #[.slice x.1 x.2.1 x.2.2] 22 (0, 0))) : hdrR.In w (some ⟨gx, 0, none⟩) [x] := by
  refine ⟨fun _ _ => trivial, .inr ⟨gx, 0, rfl, (Array.getElem?_eq_some_iff.1 h).1, fun i y hy => ?_⟩⟩
  have hi : i = 0 := by have := (List.getElem?_eq_some_iff.1 hy).1; simpa using this
  subst hi
  simp at hy
  subst hy
  refine ⟨⟨rfl, _, _, _, h, by simp [hdrR]⟩, ?_⟩
  unfold aggAt
  simp only [h]
  simp [hdrR]
theorem hdr_cells : ∀ (hs : List (Option Addr × Nat × Nat)) (i : Nat) (x : Option Addr × Nat × Nat), hs[i]? = some x → (hdrR.cells hs)[i]? = some (.slice x.1 x.2.1 x.2.2)
  | [], i, x, h => by simp at h
  | y :: l, 0, x, h => by
    simp at h; subst h
    rw [Rec.cells_cons]; rfl
  | y :: l, i + 1, x, h => by
    rw [Rec.cells_cons]
    show ([Value.slice y.1 y.2.1 y.2.2] ++ hdrR.cells l)[i + 1]? = _
    rw [List.getElem?_append_right (by simp)]
    exact hdr_cells l i x (by simpa using h)
theorem hdr_kept {n' c' : Nat} (hx : ∃ x, hs[i]? = some x ∧ Value.slice x.1 x.2.1 x.2.2 = hv) (hk : ∀ g, (Value.slice (some ⟨bg, 0, none⟩) n' c').ownBlock = some g → ∀ j u, (hdrR.cells hs)[j]? = some u → w'.cell? ⟨g, j, none⟩ = some u) :
    w.cell? ⟨bg, i, none⟩ = some hv → w'.cell? ⟨bg, i, none⟩ = some hv := by
  obtain ⟨x, h1, rfl⟩ := hx
  exact fun _ => hk bg rfl i _ (hdr_cells hs i x h1)
theorem S27_ne {e' : TypeId} {xs : List (Option Addr × Nat × Nat)} {v' : Value} (h : P0L K W0 s m a b pa pb ca cb n N D q F hs blk w) (hrow : hdrR.row 22 W0.o.heap.size hs blk w) (hg : w.grownBy w' blk.ownBlock) (ho : hdrR.row 22 W0.o.heap.size xs v' w') : v'.ownBlock ≠ some s := by
  intro e
  have h1 := (h.app hrow hg).st.at'
  obtain ⟨_, cur, h2⟩ := row_block ho s e
  rw [h1] at h2
  injection h2 with h3
  injection h3 with _ h4
  cases h4
theorem row_grownK {O : List Int} (hbg : bg < K) (h : (numR .i32).row 21 K O v w) (hg : w.grownBy w' (some bg)) : (numR .i32).row 21 K O v w' :=
  row_ak h ⟨hg.size, fun g h1 h2 => hg.block g h2 (fun e => by cases e; omega)⟩
theorem S30_mk {gv cv : Nat} {x y : Value} (h : P0L K W0 s m a b pa pb ca cb n N D q F hs blk w) (hK : W0.o.heap.size ≤ K) (hsK : s < K) (ho : hdrR.row 22 W0.o.heap.size (hs ++ [(some ⟨gv, 0, none⟩, E + 1, cv)]) x w) (hne : x.ownBlock ≠ some s)
    (hrv : (numR .i32).row 21 K (PL a b E) (.slice (some ⟨gv, 0, none⟩) (E + 1) cv) w) : S30 W0 s m a b pa pb ca cb n N D q F E hs y (w.setCell ⟨s, 3, none⟩ x) := by
  have hk := h.st.keptT 3 x 21 (by decide)
  refine ⟨x, gv, cv, h.st.setB x, own_set h.mp h.st.ne, h.sv.kept hk, h.rs.kept hk, ?_, (row_keptT hrv hk).base hK⟩
  exact ⟨ho.1, ho.2.kept (row := some s) ⟨rfl, rfl, rfl, by simp, fun k _ hk => Below.heap_setCell w ⟨s, 3, none⟩ x k (fun e => hk (by rw [e]))⟩ (.inr hne)⟩
theorem row_slice {α : Type} {R : Rec α} {e : TypeId} {base : Nat} {O : List α} (h : R.row e base O v w) : ∃ a n c, v = .slice a n c := by
  obtain ⟨a, c, h1, _⟩ := h.sl
  exact ⟨_, _, _, h1⟩
theorem rows_snoc' {base gv cv : Nat} (hE : E = 64 * q + hs.length) (hrs : Rows w base a b q hs) (hrv : (numR .i32).row 21 base (PL a b E) (.slice (some ⟨gv, 0, none⟩) (E + 1) cv) w) : Rows w base a b q (hs ++ [(some ⟨gv, 0, none⟩, E + 1, cv)]) := by
  subst hE; exact hrs.snoc hrv
/-- The next list, from the last one of the block. -/
theorem next_step {g c : Nat} (h : P0L K W0 s m a b pa pb ca cb n N D q F hs blk w) (ha : a.length ≤ 4096) (hb : b.length ≤ 4096) (hx : ∃ x, hs[i]? = some x ∧ Value.slice x.1 x.2.1 x.2.2 = .slice (some ⟨g, 0, none⟩) E c) (hE : E = 64 * q + i + 1) (hq : 64 * q + i ≤ 10000) :
    Calls Try.prog 33 #[.pointer (some ⟨s, 0, none⟩), .int .i64 (E : Int), .slice (some ⟨g, 0, none⟩) E c] w fun e w' => ∃ v, e = .returned v ∧ (numR .i32).row 21 K (PL a b E) v w' ∧ Below w.heap.size w w' := by
  obtain ⟨x, h1, h2⟩ := hx
  obtain ⟨g', c', h3, h4⟩ := h.rs i x h1
  rw [h3] at h2
  simp only [Value.slice.injEq, Option.some.injEq, Addr.mk.injEq, and_true] at h2
  obtain ⟨e1, e2, e3⟩ := h2
  subst e1 e3
  obtain ⟨pl, cc, he, _, _, hin, _⟩ := h4.sl
  rw [PL_len] at he
  cases he
  subst hE
  exact (nextS_any s a b (64 * q + i) _ _ w h.st.srch ha hb hq hin).mono fun e w' ⟨v, h5, h6, h7⟩ => ⟨v, h5, h6.base h.sz, h7⟩
theorem S30_st {y : Value} (h1 : j ∉ [0, 1, 2, 3, 4, 5, 6, 7, 8, 9, 10, 11, 12, 13, 14, 15, 16, 17, 18, 19, 20, 21, 22, 23, 24, 25, 26, 27, 29]) (h2 : j ≠ 30) (h : S30 W0 s m a b pa pb ca cb n N D q F E hs y w) (hr : RL K W0 s m a b pa pb ca cb n N D q F hs blk bg ad hv j w w') : S30 W0 s m a b pa pb ca cb n N D q F E hs y w' := by
  rcases gt30 j h1 h2 with h3 | h3
  · unfold RL at hr
    rw [if_pos (by omega)] at hr
    obtain ⟨vb, gv, cv, a1, a2, a3, a4, a5, a6⟩ := h
    exact ⟨vb, gv, cv, a1.below hr, own_below a2 hr, a3.kept (KeptT.of_below hr), a4.kept (KeptT.of_below hr), a5.below hr, a6.below hr⟩
  · unfold RL at hr
    rw [if_neg (by omega), if_neg (by omega), if_neg (by omega)] at hr
    exact hr.elim
end
end Go.Proofs.Ytipoifokcnbfnaa
