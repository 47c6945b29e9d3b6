/- maps.Keys; slices.AppendSeq, Collect over an iterator that holds its own. -/
import Derived.Test.YtmmmimkikakalaaNk
import Derived.Maps.OwnIn
import Derived.Maps.AppendAt
import Derived.Shelf.Abstract
namespace Go.Proofs.Ytmmmimkikakalaa
open Go.RowKit Go.Maps
set_option linter.unusedVariables false
attribute [local go_sem] Oper.semAt_some
attribute [local go_sem ↓] semAt_run

set_option maxHeartbeats 1000000 in
set_option maxRecDepth 100000 in
theorem keys_any (mb : Option Nat) (w : World) : Calls Try.prog 42 #[.map mb] w fun e w' => e = .returned (.func (.func 55) #[] #[.pointer (some ⟨w.heap.size, 0, none⟩)]) ∧ w' = w.alloc (.cells #[.map mb] 59) := by
  go_enter Try.func42, Try.ntmps42
  go_wp2
  go_ret
  exact ⟨rfl, rfl⟩

theorem wpListIn_app_id {F : Fence} {n : Nat} {w : World} {ops : Array Oper} {rest : List Oper} {o : Oper} {a : Act} {Q : Exit → Act → World → Prop} (hgd : o.guard = none) (s x : Operand)
    (ho : o.op = .call { callee := .builtin .append, args := #[s, x], argTypes := #[30, 30] })
    (base : Nat) (v : Value) (O A : List (List UInt8)) (hs : a.eval s = v) (hown : rowI base O v w)
    (ad : Addr) (cap : Nat) (hx : a.eval x = .slice (some ad) A.length cap) (hA : IdsIn w (some ad) A) (hlen : O.length + A.length ≤ 4000000) (hbase : base ≤ w.heap.size)
    (h : ∀ v' w', rowI base (O ++ A) v' w' → w.grownBy w' v.ownBlock → (v'.ownBlock = v.ownBlock ∨ v'.ownBlock = some w.heap.size) → wpListIn F n Try.prog ops Q rest (a.put o.dst v') w') : wpListIn F n Try.prog ops Q (o :: rest) a w := by
  have hi := info23
  cases hq : Try.prog.info? 24 with
  | none => rw [hq] at hi; cases hi
  | some i =>
    rw [hq] at hi
    simp only [Option.map_some, Option.some.injEq, Prod.mk.injEq] at hi
    obtain ⟨hz0, hz1, hz2⟩ := hi
    have hc : ∀ j u, (idsC A)[j]? = some u → w.cell? (ad.add j) = some u := by
      rcases hA.2 with rfl | ⟨b, off, he, hc⟩
      · intro j u hj; simp [idsC] at hj
      · cases he
        exact ids_cells hA.1 hc
    refine wpListIn_append_own_at w hgd s x 30 ho base 24 i _ 32 32 Try.underlying30 hq hz0 hz1 hz2 rfl (by decide) v O.length (idsC O) hs hown ad A.length cap (idsC A) hx (idsC_length A hA.1) hc (idsC_one A) (by unfold maxLen; omega) (by omega) hbase ?_
    intro v' w' h1 h2 _ h4
    exact h v' w' (by unfold rowI; rw [List.length_append, idsC_append]; exact h1) h2 h4
theorem wpList_app_id {w : World} {ops : Array Oper} {rest : List Oper} {o : Oper} {a : Act} {Q : Exit → Act → World → Prop} (hgd : o.guard = none) (s x : Operand)
    (ho : o.op = .call { callee := .builtin .append, args := #[s, x], argTypes := #[30, 30] })
    (base : Nat) (v : Value) (O A : List (List UInt8)) (hs : a.eval s = v) (hown : rowI base O v w)
    (ad : Addr) (cap : Nat) (hx : a.eval x = .slice (some ad) A.length cap) (hA : IdsIn w (some ad) A) (hlen : O.length + A.length ≤ 4000000) (hbase : base ≤ w.heap.size)
    (h : ∀ v' w', rowI base (O ++ A) v' w' → w.grownBy w' v.ownBlock → (v'.ownBlock = v.ownBlock ∨ v'.ownBlock = some w.heap.size) → wpList Try.prog ops Q rest (a.put o.dst v') w') : wpList Try.prog ops Q (o :: rest) a w := by
  have hi := info23
  cases hq : Try.prog.info? 24 with
  | none => rw [hq] at hi; cases hi
  | some i =>
    rw [hq] at hi
    simp only [Option.map_some, Option.some.injEq, Prod.mk.injEq] at hi
    obtain ⟨hz0, hz1, hz2⟩ := hi
    have hc : ∀ j u, (idsC A)[j]? = some u → w.cell? (ad.add j) = some u := by
      rcases hA.2 with rfl | ⟨b, off, he, hc⟩
      · intro j u hj; simp [idsC] at hj
      · cases he
        exact ids_cells hA.1 hc
    refine wpList_append_own_at w hgd s x 30 ho base 24 i _ 32 32 Try.underlying30 hq hz0 hz1 hz2 rfl (by decide) v O.length (idsC O) hs hown ad A.length cap (idsC A) hx (idsC_length A hA.1) hc (idsC_one A) (by unfold maxLen; omega) (by omega) hbase ?_
    intro v' w' h1 h2 _ h4
    exact h v' w' (by unfold rowI; rw [List.length_append, idsC_append]; exact h1) h2 h4
/-- A row whose own block lies as it lay. -/
theorem rowI_same {w w' : World} {base : Nat} {O : List (List UInt8)} {v : Value} (h : rowI base O v w) (hk : ∀ k, v.ownBlock = some k → w'.heap[k]? = w.heap[k]?) : rowI base O v w' := by
  obtain ⟨hl, ⟨rfl, hn⟩ | ⟨g, cap, cur, rfl, hg, hh, hc⟩⟩ := h
  · exact ⟨hl, .inl ⟨rfl, hn⟩⟩
  · exact ⟨hl, .inr ⟨g, cap, cur, rfl, hg, (hk g rfl).trans hh, hc⟩⟩
theorem rowI_lt {w : World} {base : Nat} {O : List (List UInt8)} {v : Value} (h : rowI base O v w) {k : Nat} (hk : v.ownBlock = some k) : k < w.heap.size ∧ base ≤ k ∧ ∃ cur, w.heap[k]? = some (.cells cur 24 (0, 0)) := by
  obtain ⟨hl, ⟨rfl, hn⟩ | ⟨g, cap, cur, rfl, hg, hh, hc⟩⟩ := h
  · cases hk
  · simp only [Value.ownBlock, Option.some.injEq] at hk
    subst hk
    exact ⟨(Array.getElem?_eq_some_iff.1 hh).1, hg, cur, hh⟩

theorem fits_blk {W : World} {b : Nat} {x : List UInt8} (hx : x.length = 32) (h : W.heap[b]? = some (.cells (idB x) 24 (0, 0))) : fits W ⟨b, 0, none⟩ 32 ∧ aggAt W ⟨b, 0, none⟩ 32 = idB x := by
  have hs : (idB x).size = 32 := by rw [idB_size, hx]
  refine ⟨⟨rfl, _, _, _, h, by simp [hs]⟩, ?_⟩
  unfold aggAt
  simp only [h]
  rw [← hs, Nat.zero_add, Array.extract_size]
theorem heap_box {W : World} {B : Nat} {v : Value} {t : TypeId} (v' : Value) (h : W.heap[B]? = some (.cells #[v] t (0, 0))) : (W.setCell ⟨B, 0, none⟩ v').heap[B]? = some (.cells #[v'] t (0, 0)) := by
  obtain ⟨hlt, hk⟩ := Array.getElem?_eq_some_iff.1 h
  show (W.heap.modify B _)[B]? = _
  rw [Array.getElem?_eq_getElem (by rw [Array.size_modify]; exact hlt), Array.getElem_modify_self, hk]
  rfl
theorem size_setCell (W : World) (a : Addr) (v : Value) : (W.setCell a v).heap.size = W.heap.size := by
  show (W.heap.modify _ _).size = _
  rw [Array.size_modify]
/-- What AppendSeq holds between two rounds: its box, and the row there. -/
def ApI (w : World) (xs : List Id32) (U : Nat → Prop) (W : World) : Prop :=
  ∃ v, W.heap[w.heap.size]? = some (.cells #[v] 30 (0, 0)) ∧ rowI w.heap.size (valsI xs) v W ∧ (∀ k, U k ↔ k = w.heap.size ∨ v.ownBlock = some k) ∧ Below w.heap.size w W
theorem apI_stays (w : World) (B : Nat) (hB : w.heap.size ≤ B) : Stays B (ApI w) := by
  intro pre U W W' ⟨v, h1, h2, h3, h4⟩ ht
  refine ⟨v, (ht.block _ (Array.getElem?_eq_some_iff.1 h1).1 (fun h => h.2 ((h3 _).2 (.inl rfl)))).trans h1, rowI_same h2 (fun k hk => ht.block k (rowI_lt h2 hk).1 (fun h => h.2 ((h3 _).2 (.inr hk)))), h3, ?_⟩
  exact h4.trans ⟨ht.os, ht.tape, ht.output, ht.size, fun k hk => ht.block k (by have := h4.size; omega) (fun h => by have : B ≤ k := h.1; omega)⟩

set_option maxHeartbeats 4000000 in
set_option maxRecDepth 100000 in
theorem appendSeq_any (gf : Nat) (lb : Array Value) (eg : ∀ args w, (callFunc gf args).run Try.prog w = .ok (.enter gf args) w) (S Sp : List Id32 → Prop) (N : Nat) (hN : N ≤ 1000000) (w : World) (hseq : SeqO Try.prog gf lb encI S Sp N w) :
    Calls Try.prog 54 #[.slice none 0 0, .func (.func gf) #[] lb] w fun e w' => ∃ v xs, e = .returned v ∧ S xs ∧ rowI w.heap.size (valsI xs) v w' ∧ Below w.heap.size w w' := by
  refine (callsIn_wide (n := 2)).1 ?_
  refine callsIn_of_wp_marks Try.func54 rfl trivial ?_ rfl
  simp only [Try.ntmps54, List.size_toArray, List.length_cons, List.length_nil, Nat.reduceAdd, Nat.reduceSub, Array.replicate_succ, Array.replicate_zero, List.push_toArray, List.append_toArray, List.nil_append, List.cons_append]
  gi_wp2
  obtain ⟨W0, hW0⟩ : ∃ W0, W0 = w.alloc (.cells #[.slice none 0 0] 30) := ⟨_, rfl⟩
  have hs0 : W0.heap.size = w.heap.size + 1 := by rw [hW0]; simp
  have hb0 : Below w.heap.size w W0 := by rw [hW0]; exact (Below.refl _ w).alloc (Nat.le_refl _) _
  have hv0 : W0.heap[w.heap.size]? = some (.cells #[.slice none 0 0] 30 (0, 0)) := by rw [hW0]; exact World.alloc_heap_new w _
  rw [← hW0]
  refine wp_rangeFuncO rfl eg hseq hb0 (fun _ => rfl) (ApI w) (fun _ _ _ _ => False) (apI_stays w _ hb0.size) (fun _ _ _ _ _ h _ => h) (fun k => k = w.heap.size)
    ⟨_, hv0, ⟨by simp [idsC, valsI], .inl ⟨rfl, by simp [valsI]⟩⟩, fun k => by simp [Value.ownBlock], hb0⟩ ?hU (fun _ _ _ _ h => h.elim)
    (fun x a' W b => a' = { tmps := #[.slice none 0 0, .func (.func gf) #[] lb, .pointer (some ⟨w.heap.size, 0, none⟩), undef, .slice none 0 0, .pointer (some ⟨b, 0, none⟩), .func (.func gf) #[] lb, .agg (idB x.1), undef, undef, undef, undef, undef], defers := [] } ∧ W.heap[b]? = some (.cells (idB x.1) 24 (0, 0)))
    (fun x a' W b W' h e => ⟨h.1, e.trans h.2⟩) ?assign ?body ?done (fun _ _ _ _ _ _ _ _ h _ => h.elim) (fun k hk => by omega)
  case hU =>
    rintro pre U W ⟨v, h1, h2, h3, h4⟩ k hk
    rcases (h3 k).1 hk with rfl | h
    · exact ⟨(Array.getElem?_eq_some_iff.1 h1).1, Nat.le_refl _⟩
    · exact ⟨(rowI_lt h2 h).1, (rowI_lt h2 h).2.1⟩
  case assign =>
    rintro l ⟨x, hx⟩ W K hK
    have HK := Lib.hid hK
    have hx32 := idOk_agg x hx
    clear hK
    simp only [encI]
    gi_wp2
    exact HK.out _ _ W.heap.size (.of_below ((Below.refl W.heap.size W).alloc (Nat.le_refl _) _) _) (Nat.le_refl _) (by simp) ⟨rfl, World.alloc_heap_new W _⟩
  case body =>
    rintro l pre ⟨x, hx⟩ W U b a' ⟨v, h1, h2, h3, h4⟩ hlen ⟨rfl, hbx⟩ hub hbl hbw
    obtain ⟨e1, e2⟩ := fits_blk hx hbx
    have hc1 : W.cell? ⟨w.heap.size, 0, none⟩ = some v := by rw [Lib.cell_of_heap h1]; rfl
    have hf1 : W.frozen? ⟨w.heap.size, 0, none⟩ = false := Lib.frozen_of_heap h1 0
    have H32 : ∀ z ∈ valsI pre, z.length = 32 := fun z hz => by obtain ⟨y, _, rfl⟩ := List.mem_map.1 hz; exact y.2
    have hbn := (Below.refl W.heap.size W).alloc (Nat.le_refl _) (.cells (idB x) 24)
    have H1 := Lib.hid h1
    have H2 := Lib.hid h2
    have H3 := Lib.hid h3
    have H4 := Lib.hid h4
    have HBN := Lib.hid hbn
    have HLEN := Lib.hid hlen
    have HR1 := Lib.hid (rowI_st _ _ _ _ _ h2 hbn)
    have HN1 := Lib.hid (one_new (w := W) hx)
    have HVL := Lib.hid (show (valsI pre).length + [x].length ≤ 4000000 by simp [valsI]; omega)
    obtain ⟨a2, c2, rfl, p1, p2, p3, p4⟩ := SlI_row H32 h2
    clear h1 h2 h3 h4 hbn p1 p2 p3 p4 hlen hbx
    gi_wp2_with (gi_at_builtin; refine wpListIn_app_id rfl _ _ rfl w.heap.size _ (valsI pre) [x] rfl HR1.out _ 1 rfl HN1.out HVL.out (by have := H4.out.size; simp; omega) ?_)
    intro v' w2 hr2 hg2 hb2
    obtain ⟨g', cap', rfl, q1, q2⟩ := row_some (by simp) hr2
    have hne : ∀ k, (Value.slice a2 (valsI pre).length c2).ownBlock = some k → k ≠ w.heap.size := fun k hk e => by
      obtain ⟨_, _, cur, hcur⟩ := rowI_lt H2.out hk
      rw [e, H1.out] at hcur
      injection hcur with h; injection h with _ h _; exact absurd h (by decide)
    have hbs : w.heap.size < W.heap.size := (Array.getElem?_eq_some_iff.1 H1.out).1
    have hbox : w2.heap[w.heap.size]? = some (.cells #[.slice a2 (valsI pre).length c2] 30 (0, 0)) := (hg2.block _ (by simp; omega) (fun h => hne _ h.symm rfl)).trans ((HBN.out.block _ hbs).trans H1.out)
    have hc2 : w2.cell? ⟨w.heap.size, 0, none⟩ = some (.slice a2 (valsI pre).length c2) := by rw [Lib.cell_of_heap hbox]; rfl
    have hf2 : w2.frozen? ⟨w.heap.size, 0, none⟩ = false := Lib.frozen_of_heap hbox 0
    have HR2 := Lib.hid hr2
    have HG2 := Lib.hid hg2
    have HB2 := Lib.hid hb2
    have HNE := Lib.hid hne
    have HBOX := Lib.hid hbox
    clear hr2 hg2 hb2 hne hbox e1 e2 hc1 hf1
    gi_wp2
    have hel : (valsI pre ++ [x]).length = (valsI pre).length + 1 := by simp
    have hg'lt := rowI_lt HR2.out (k := g') rfl
    have hgne : g' ≠ w.heap.size := fun e => by
      obtain ⟨_, _, cur, hcur⟩ := hg'lt
      rw [e, HBOX.out] at hcur
      injection hcur with h; injection h with _ h _; exact absurd h (by decide)
    have hset : ∀ k, k ≠ w.heap.size → (w2.setCell ⟨w.heap.size, 0, none⟩ (Value.slice (some ⟨g', 0, none⟩) ((valsI pre).length + 1) cap')).heap[k]? = w2.heap[k]? := fun k hk => Below.heap_setCell w2 ⟨w.heap.size, 0, none⟩ _ k hk
    have hrow2 : rowI w.heap.size (valsI (pre ++ [⟨x, hx⟩])) (Value.slice (some ⟨g', 0, none⟩) ((valsI pre).length + 1) cap') w2 := by
      rw [valsI_snoc, ← hel]; exact HR2.out
    refine ⟨⟨HG2.out.os, HG2.out.tape, HG2.out.output, ?_, fun k hk hn => ?_⟩, (fun k => k = w.heap.size ∨ g' = k), ⟨_, heap_box _ HBOX.out, rowI_same hrow2 (fun k hk => hset k ?_), fun k => by simp [Value.ownBlock], ?_⟩, fun k hk => ?_⟩
    · have := HG2.out.size; have h9 := size_setCell w2 ⟨w.heap.size, 0, none⟩ (Value.slice (some ⟨g', 0, none⟩) ((valsI pre).length + 1) cap'); simp at this; omega
    · have h8 : ¬ (k = w.heap.size ∨ (Value.slice a2 (valsI pre).length c2).ownBlock = some k) := fun h => hn ((H3.out k).2 h)
      exact (hset k (fun e => h8 (.inl e))).trans ((HG2.out.block k (by simp; omega) (fun e => h8 (.inr e.symm))).trans (HBN.out.block k hk))
    · simp only [Value.ownBlock, Option.some.injEq] at hk
      omega
    · refine (H4.out.trans (HBN.out.mono H4.out.size)).trans ⟨HG2.out.os, HG2.out.tape, HG2.out.output, ?_, fun k hk => ?_⟩
      · have := HG2.out.size; have h9 := size_setCell w2 ⟨w.heap.size, 0, none⟩ (Value.slice (some ⟨g', 0, none⟩) ((valsI pre).length + 1) cap'); omega
      · refine (hset k (by omega)).trans (HG2.out.block k (by have := H4.out.size; simp; omega) (fun e => ?_))
        have := (rowI_lt H2.out e.symm).2.1
        omega
    · rcases hk with h | h
      · exact .inl ((H3.out k).2 (.inl h))
      · subst h
        rcases HB2.out with h | h
        · exact .inl ((H3.out _).2 (.inr h.symm))
        · right
          simp only [Value.ownBlock, Option.some.injEq] at h
          omega
  case done =>
    rintro D xs U W hD hUD hS ⟨v, h1, h2, h3, h4⟩ hK
    have hc1 : W.cell? ⟨w.heap.size, 0, none⟩ = some v := by rw [Lib.cell_of_heap h1]; rfl
    have H32 : ∀ z ∈ valsI xs, z.length = 32 := fun z hz => by obtain ⟨y, _, rfl⟩ := List.mem_map.1 hz; exact y.2
    have H1 := Lib.hid h1
    have H2 := Lib.hid h2
    have H3 := Lib.hid h3
    have H4 := Lib.hid h4
    have HKD := Lib.hid hK
    have HS := Lib.hid hS
    obtain ⟨a2, c2, rfl, p1, p2, p3, p4⟩ := SlI_row H32 h2
    clear h1 h2 h3 h4 p1 p2 p3 p4 hK hS
    gi_wp2
    refine ⟨by simp, .inl ⟨_, _, rfl, run_takeDeferred HKD.out, ?_⟩⟩
    have hne : ∀ k, (Value.slice a2 (valsI xs).length c2).ownBlock = some k → k ≠ D := fun k hk e => hUD ((H3.out D).2 (.inr (e ▸ hk)))
    exact ⟨_, results_tmp rfl _ _ _, .slice a2 (valsI xs).length c2, xs, rfl, HS.out, rowI_same H2.out (fun k hk => World.putObj_heap_other (hne k hk)), H4.out.trans ⟨rfl, rfl, rfl, by simp, fun k hk => World.putObj_heap_other (by omega)⟩⟩
end Go.Proofs.Ytmmmimkikakalaa

namespace Go.Proofs.Ytmmmimkikakalaa
open Go.RowKit Go.Maps
set_option linter.unusedVariables false

set_option maxHeartbeats 1000000 in
set_option maxRecDepth 100000 in
theorem collect_any (gf : Nat) (lb : Array Value) (eg : ∀ args w, (callFunc gf args).run Try.prog w = .ok (.enter gf args) w) (S Sp : List Id32 → Prop) (N : Nat) (hN : N ≤ 1000000) (w : World) (hseq : SeqO Try.prog gf lb encI S Sp N w) :
    Calls Try.prog 41 #[.func (.func gf) #[] lb] w fun e w' => ∃ v xs, e = .returned v ∧ S xs ∧ rowI w.heap.size (valsI xs) v w' ∧ Below w.heap.size w w' := by
  have HA := Lib.hid (appendSeq_any gf lb eg S Sp N hN w hseq)
  clear eg hseq
  go_enter Try.func41, Try.ntmps41
  go_wp2_with fail
  refine HA.out.mono ?_
  rintro e w1 ⟨v, xs, rfl, hS, hr, hb⟩
  have HR := Lib.hid hr
  have HB := Lib.hid hb
  have HS := Lib.hid hS
  clear hr hb hS
  go_wp2
  go_ret
  exact ⟨v, xs, rfl, HS.out, HR.out, HB.out⟩

theorem enter55 : ∀ args w, (callFunc 55 args).run Try.prog w = .ok (.enter 55 args) w := Go.Proofs.enters_of Try.func55 (by kernel_rfl) rfl
theorem enter53 : ∀ args w, (callFunc 53 args).run Try.prog w = .ok (.enter 53 args) w := Go.Proofs.enters_of Try.func53 (by kernel_rfl) rfl

set_option maxHeartbeats 2000000 in
set_option maxRecDepth 100000 in
theorem ids_any (gb mb : Nat) (G : List GN) (w : World) (hlen : G.length ≤ 1000) (hG : GraphAt w gb mb G) :
    Calls Try.prog 17 #[.pointer (some ⟨gb, 0, none⟩)] w fun e w' => ∃ v, e = .returned v ∧ rowI w.heap.size (idsL G) v w' ∧ Below w.heap.size w w' := by
  have e0 := hG.cell
  have hb1 := (Below.refl w.heap.size w).alloc (Nat.le_refl _) (.cells #[.map (some mb)] 59)
  obtain ⟨D, n, hn, ho, hd⟩ := (hG.below hb1).map
  have HSQ := Lib.hid (keys1_any w.heap.size mb n D G (fun g hg => (hd.node g hg).1) hd.size hd.has (w.alloc (.cells #[.map (some mb)] 59)) (by simp) (by rw [Lib.cell_of_heap (World.alloc_heap_new w _)]; rfl) ho)
  have HB1 := Lib.hid hb1
  have HLEN := Lib.hid hlen
  have HDN := Lib.hid hd.node
  clear hb1 ho hd hn
  go_enter Try.func17, Try.ntmps17
  go_wp2_with fail
  refine (keys_any (some mb) w).mono ?_
  rintro e w1 ⟨rfl, rfl⟩
  go_wp2_with fail
  refine (collect_any 55 _ enter55 _ _ _ (by have := HLEN.out; omega) _ HSQ.out).mono ?_
  rintro e w2 ⟨v, xs, rfl, ⟨hnd, hmem⟩, hr, hb2⟩
  have HB2 := Lib.hid (HB1.out.trans (hb2.mono HB1.out.size))
  have H32 : ∀ z ∈ valsI xs, z.length = 32 := fun z hz => by obtain ⟨y, _, rfl⟩ := List.mem_map.1 hz; exact y.2
  obtain ⟨a2, c2, rfl, p1, p2, p3, p4⟩ := SlI_row H32 hr
  have hl : (valsI xs).length ≤ 1000000 := by
    have := nodup_len (valsI xs) (G.map (·.1)) hnd (fun x hx => (hmem x).1 hx)
    simp only [List.length_map] at this
    have := HLEN.out; omega
  have HST := Lib.hid (set_any a2 c2 (valsI xs) w2 p1 p2 hl p3 p4)
  have HE := Lib.hid (show setL (valsI xs) = idsL G from setL_congr hmem)
  clear hr hb2 p1 p2 p3 p4 hnd hmem e0
  go_wp2_with fail
  refine HST.out.mono ?_
  rintro e w3 ⟨v3, rfl, hr3, hb3⟩
  rw [HE.out] at hr3
  have HR3 := Lib.hid (ownsRow_base hr3 HB2.out.size)
  have HB3 := Lib.hid (HB2.out.trans (hb3.mono HB2.out.size))
  clear hr3 hb3
  go_wp2
  go_ret
  exact ⟨v3, rfl, HR3.out, HB3.out⟩
end Go.Proofs.Ytmmmimkikakalaa
