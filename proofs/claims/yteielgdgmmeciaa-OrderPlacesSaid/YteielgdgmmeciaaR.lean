/- append of ids onto an own row; merge. -/
import Derived.Test.YteielgdgmmeciaaQ
import Derived.Laws.AppendOwnNone
import Derived.Laws.MakeOwn
namespace Go.Proofs.Yteielgdgmmeciaa
open Go.RowKit
set_option linter.unusedVariables false

theorem info23 : (Try.prog.info? 23).map (fun i => (i.zero, i.size, i.bytes)) = some (some (.agg (Array.replicate 32 (.int .u8 0))), 32, 32) := by kernel_rfl

theorem wpList_append_ids {w : World} {ops : Array Oper} {rest : List Oper} {o : Oper} {a : Act} {Q : Exit → Act → World → Prop} (hgd : o.guard = none) (s x : Operand)
    (ho : o.op = .call { callee := .builtin .append, args := #[s, x], argTypes := #[30, 30] })
    (base : Nat) (v : Value) (O A : List (List UInt8)) (hs : a.eval s = v) (hown : w.ownsRow base 23 32 v O.length (idsC O))
    (ad : Option Addr) (cap : Nat) (hx : a.eval x = .slice ad A.length cap) (hA : IdsIn w ad A) (hn : ad = none → A = [] ∧ cap = 0) (hlen : O.length + A.length ≤ 4000000) (hbase : base ≤ w.heap.size)
    (h : ∀ v' w', w'.ownsRow base 23 32 v' (O ++ A).length (idsC (O ++ A)) → Below base w w' → wpList Try.prog ops Q rest (a.put o.dst v') w') : wpList Try.prog ops Q (o :: rest) a w := by
  have hi := info23
  cases hq : Try.prog.info? 23 with
  | none => rw [hq] at hi; cases hi
  | some i =>
    rw [hq] at hi
    simp only [Option.map_some, Option.some.injEq, Prod.mk.injEq] at hi
    obtain ⟨hz0, hz1, hz2⟩ := hi
    cases ad with
    | none =>
      obtain ⟨rfl, rfl⟩ := hn rfl
      refine wpList_append_own_none hgd s x 30 ho base 23 i 32 Try.underlying30 hq v O.length (idsC O) hs hown hx ?_
      exact h v w (by simpa using hown) (Below.refl _ _)
    | some ad =>
      have hc : ∀ j u, (idsC A)[j]? = some u → w.cell? (ad.add j) = some u := by
        rcases hA.2 with rfl | ⟨b, off, he, hc⟩
        · intro j u hj; simp [idsC] at hj
        · cases he
          exact ids_cells hA.1 hc
      refine wpList_append_own w hgd s x 30 ho base 23 i _ 32 32 Try.underlying30 hq hz0 hz1 hz2 rfl (by decide) v O.length (idsC O) hs hown ad A.length cap (idsC A) hx (idsC_length A hA.1) hc (idsC_one A) (by unfold maxLen; omega) (by omega) hbase ?_
      intro v' w' h1 h2 _
      refine h v' w' (by rw [List.length_append, idsC_append]; exact h1) ((Below.refl _ _).grown h2 hbase (fun k hk => ?_))
      obtain ⟨_, ⟨rfl, _⟩ | ⟨g, cap', cur, rfl, hg, _⟩⟩ := hown
      · cases hk
      · simp only [Value.ownBlock, Option.some.injEq] at hk; omega

/-- The same of one id in a new slice; the row's own block alone is written. -/
theorem wpList_append_one {w : World} {ops : Array Oper} {rest : List Oper} {o : Oper} {a : Act} {Q : Exit → Act → World → Prop} (hgd : o.guard = none) (s x : Operand)
    (ho : o.op = .call { callee := .builtin .append, args := #[s, x], argTypes := #[30, 30] })
    (base : Nat) (v : Value) (O A : List (List UInt8)) (hs : a.eval s = v) (hown : w.ownsRow base 23 32 v O.length (idsC O))
    (ad : Addr) (cap : Nat) (hx : a.eval x = .slice (some ad) A.length cap) (hA : IdsIn w (some ad) A) (hlen : O.length + A.length ≤ 4000000) (hbase : base ≤ w.heap.size)
    (h : ∀ v' w', w'.ownsRow base 23 32 v' (O ++ A).length (idsC (O ++ A)) → w.grownBy w' v.ownBlock ∧ Below base w w' → wpList Try.prog ops Q rest (a.put o.dst v') w') : wpList Try.prog ops Q (o :: rest) a w := by
  have hi := info23
  cases hq : Try.prog.info? 23 with
  | none => rw [hq] at hi; cases hi
  | some i =>
    rw [hq] at hi
    simp only [Option.map_some, Option.some.injEq, Prod.mk.injEq] at hi
    obtain ⟨hz0, hz1, hz2⟩ := hi
    have hc : ∀ j u, (idsC A)[j]? = some u → w.cell? (ad.add j) = some u := by
      rcases hA.2 with rfl | ⟨b, off, he, hc⟩
      · intro j u hj; simp [idsC] at hj
      · cases he
        exact ids_cells hA.1 hc
    refine wpList_append_own w hgd s x 30 ho base 23 i _ 32 32 Try.underlying30 hq hz0 hz1 hz2 rfl (by decide) v O.length (idsC O) hs hown ad A.length cap (idsC A) hx (idsC_length A hA.1) hc (idsC_one A) (by unfold maxLen; omega) (by omega) hbase ?_
    intro v' w' h1 h2 _
    refine h v' w' (by rw [List.length_append, idsC_append]; exact h1) ⟨h2, (Below.refl _ _).grown h2 hbase (fun k hk => ?_)⟩
    obtain ⟨_, ⟨rfl, _⟩ | ⟨g, cap', cur, rfl, hg, _⟩⟩ := hown
    · cases hk
    · simp only [Value.ownBlock, Option.some.injEq] at hk; omega

/-- make([]Id, 0, n). -/
theorem run_make_ids (w : World) (n : Nat) (hn : n ≤ 4000000) : ∃ v w', (Instr.makeSlice 30 (.int .i64 0) (.int .i64 (n : Int))).run Try.prog w = .ok v w' ∧
    w'.ownsRow w.heap.size 23 32 v ([] : List (List UInt8)).length (idsC []) ∧ Below w.heap.size w w' := by
  have hi := info23
  cases hq : Try.prog.info? 23 with
  | none => rw [hq] at hi; cases hi
  | some i =>
    rw [hq] at hi
    simp only [Option.map_some, Option.some.injEq, Prod.mk.injEq] at hi
    obtain ⟨hz0, hz1, hz2⟩ := hi
    obtain ⟨w', h1, h2, h3⟩ := run_make_own (P := Try.prog) w w.heap.size 30 23 i _ 32 Try.underlying30 hq hz0 hz1 .i64 .i64 n (by rw [hz2]; omega) (by unfold maxLen; omega) (Nat.le_refl _)
    exact ⟨_, w', h1, h2, (Below.refl _ _).grown h3 (Nat.le_refl _) (fun k hk => by cases hk)⟩

/-- What stands in a slice, with what bounds it. -/
def SlI (W : World) (v : Value) (A : List (List UInt8)) : Prop := ∃ a c, v = .slice a A.length c ∧ A.length ≤ c ∧ c ≤ maxLen ∧ IdsIn W a A ∧ (a = none → A = [] ∧ c = 0)
theorem SlI_row {w : World} {base : Nat} {v : Value} {xs : List (List UInt8)} (h32 : ∀ x ∈ xs, x.length = 32) (h : w.ownsRow base 23 32 v xs.length (idsC xs)) : SlI w v xs := by
  obtain ⟨a, c, rfl, h1, h2, h3⟩ := row_ids h32 h
  refine ⟨a, c, rfl, h1, ?_, h2, h3⟩
  obtain ⟨_, ⟨he, hn⟩ | ⟨g, cap', cur, he, hg, _, _, hm, _⟩⟩ := h
  · injection he with e1 e2 e3; subst e3; unfold maxLen; omega
  · injection he with e1 e2 e3; subst e3; exact hm
theorem SlI_below {w w' : World} {v : Value} {xs : List (List UInt8)} (h : SlI w v xs) (hb : Below w.heap.size w w') : SlI w' v xs := by
  obtain ⟨a, c, h0, h1, h2, h3, h4⟩ := h
  exact ⟨a, c, h0, h1, h2, h3.below hb, h4⟩
theorem SlI_cons {W : World} {v : Value} {x : List UInt8} {xs : List (List UInt8)} (h : SlI W v (x :: xs)) : ∃ b off c, v = .slice (some ⟨b, off, none⟩) (xs.length + 1) (c + 1) ∧ xs.length ≤ c ∧ c + 1 ≤ maxLen ∧ x.length = 32 ∧
    (fits W ⟨b, off, none⟩ 32 ∧ aggAt W ⟨b, off, none⟩ 32 = idB x) ∧ SlI W (.slice (some ⟨b, off + 32, none⟩) xs.length c) xs := by
  obtain ⟨a, c, rfl, h1, h2, h3, h4⟩ := h
  rcases h3.2 with h0 | ⟨b, off, rfl, hc⟩
  · cases h0
  · obtain ⟨c, rfl⟩ : ∃ c', c = c' + 1 := ⟨c - 1, by simp at h1; omega⟩
    refine ⟨b, off, c, rfl, by simpa using h1, h2, h3.1 _ (by simp), ?_, _, c, rfl, by simpa using h1, by omega, ids_tail h3, fun e => by cases e⟩
    have := hc 0 (by simp)
    simpa using this

end Go.Proofs.Yteielgdgmmeciaa
