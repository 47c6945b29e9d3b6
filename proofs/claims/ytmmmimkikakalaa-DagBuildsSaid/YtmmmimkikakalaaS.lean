/- Rows of ids; merging. -/
import Derived.Test.YtmmmimkikakalaaP
import Derived.Laws.AppendOwnNone
import Derived.Laws.MakeOwn
namespace Go.Proofs.Ytmmmimkikakalaa
open Go.RowKit
set_option linter.unusedVariables false

/-- The cells of ids. -/
def idsC (xs : List (List UInt8)) : List Value := xs.flatMap Lib.byteCells
theorem idsC_nil : idsC [] = [] := rfl
theorem idsC_cons (x : List UInt8) (xs : List (List UInt8)) : idsC (x :: xs) = Lib.byteCells x ++ idsC xs := by simp [idsC]
theorem idsC_append (xs ys : List (List UInt8)) : idsC (xs ++ ys) = idsC xs ++ idsC ys := by simp [idsC]
theorem idsC_length : ∀ xs : List (List UInt8), (∀ x ∈ xs, x.length = 32) → (idsC xs).length = xs.length * 32
  | [], _ => by simp [idsC]
  | x :: xs, h => by
    rw [idsC_cons, List.length_append, idsC_length xs (fun y hy => h y (by simp [hy])), Lib.byteCells_length, h x (by simp), List.length_cons]; omega
theorem idsC_at : ∀ (xs : List (List UInt8)) (i : Nat), (∀ x ∈ xs, x.length = 32) → i < xs.length → ((idsC xs).drop (i * 32)).take 32 = Lib.byteCells (xs.getD i [])
  | [], i, _, h => by simp at h
  | x :: xs, 0, h, _ => by
    have hl : (Lib.byteCells x).length = 32 := by rw [Lib.byteCells_length, h x (by simp)]
    rw [idsC_cons]; simp [hl]
  | x :: xs, i + 1, h, hi => by
    have hl : (Lib.byteCells x).length = 32 := by rw [Lib.byteCells_length, h x (by simp)]
    rw [idsC_cons, List.drop_append, hl, show (i + 1) * 32 - 32 = i * 32 by omega, List.drop_of_length_le (by rw [hl]; omega), List.nil_append, idsC_at xs i (fun y hy => h y (by simp [hy])) (by simpa using hi), List.getD_cons_succ]
theorem idsC_one (xs : List (List UInt8)) : ∀ u ∈ idsC xs, u.oneCell' = true := by
  intro u hu
  obtain ⟨x, _, hx⟩ := List.mem_flatMap.1 hu
  obtain ⟨c, _, rfl⟩ := List.mem_map.1 hx
  rfl

/-- A row of ids is a slice of them. -/
theorem row_ids {w : World} {base : Nat} {v : Value} {xs : List (List UInt8)} (h32 : ∀ x ∈ xs, x.length = 32) (h : w.ownsRow base 24 32 v xs.length (idsC xs)) :
    ∃ a cap, v = .slice a xs.length cap ∧ xs.length ≤ cap ∧ IdsIn w a xs ∧ (a = none → xs = [] ∧ cap = 0) := by
  obtain ⟨hl, ⟨rfl, hn⟩ | ⟨g, cap, cur, rfl, hg, hh, hc, hm, hs, ht⟩⟩ := h
  · have : xs = [] := List.length_eq_zero_iff.1 hn
    subst this
    exact ⟨none, 0, rfl, by simp, ⟨by simp, .inl rfl⟩, fun _ => ⟨rfl, rfl⟩⟩
  · refine ⟨_, cap, rfl, hc, ⟨h32, .inr ⟨g, 0, rfl, fun i hi => ?_⟩⟩, fun e => by cases e⟩
    have hfit : 0 + i * 32 + 32 ≤ cur.size := by rw [hs]; omega
    refine ⟨⟨rfl, cur, 24, (0, 0), hh, hfit⟩, ?_⟩
    unfold aggAt
    rw [show w.heap[(⟨g, 0 + i * 32, none⟩ : Addr).block]? = some (.cells cur 24 (0, 0)) from hh]
    have hcur := idsC_at xs i h32 hi
    rw [← ht] at hcur
    apply Array.ext'
    simp only [Array.toList_extract, List.extract_eq_take_drop, idB]
    rw [← hcur, List.drop_take, List.take_take]
    congr 1
    · omega
    · simp

theorem ids_cells {w : World} {b off : Nat} {xs : List (List UInt8)} (h32 : ∀ x ∈ xs, x.length = 32)
    (h : ∀ i, i < xs.length → fits w ⟨b, off + i * 32, none⟩ 32 ∧ aggAt w ⟨b, off + i * 32, none⟩ 32 = idB (xs.getD i [])) :
    ∀ j u, (idsC xs)[j]? = some u → w.cell? ((⟨b, off, none⟩ : Addr).add j) = some u := by
  intro j u hj
  have hjl : j < (idsC xs).length := (List.getElem?_eq_some_iff.1 hj).1
  rw [idsC_length xs h32] at hjl
  have hi : j / 32 < xs.length := by omega
  obtain ⟨hf, ha⟩ := h (j / 32) hi
  have hadd : (⟨b, off, none⟩ : Addr).add j = ⟨b, (off + j / 32 * 32) + j % 32, none⟩ := by
    rw [show off + j / 32 * 32 + j % 32 = off + j by omega]
    unfold Addr.add; split <;> simp_all
  have hg := aggAt_get (j := j % 32) hf (by omega)
  rw [hadd, hg, ha]
  have := idsC_at xs (j / 32) h32 hi
  have h3 : ((idsC xs).drop (j / 32 * 32)).take 32 = Lib.byteCells (xs.getD (j / 32) []) := this
  have h4 : (((idsC xs).drop (j / 32 * 32)).take 32)[j % 32]? = some u := by
    rw [List.getElem?_take, if_pos (by omega), List.getElem?_drop, show j / 32 * 32 + j % 32 = j by omega]; exact hj
  rw [h3] at h4
  simpa [idB] using h4

/-- One slice's tail. -/
theorem ids_tail {w : World} {b off : Nat} {x : List UInt8} {xs : List (List UInt8)} (h : IdsIn w (some ⟨b, off, none⟩) (x :: xs)) : IdsIn w (some ⟨b, off + 32, none⟩) xs := by
  refine ⟨fun y hy => h.1 y (by simp [hy]), ?_⟩
  rcases h.2 with h0 | ⟨b', off', he, hc⟩
  · cases h0
  · cases he
    refine .inr ⟨b, off + 32, rfl, fun i hi => ?_⟩
    have := hc (i + 1) (by simpa using hi)
    rwa [show off + (i + 1) * 32 = off + 32 + i * 32 by omega, List.getD_cons_succ] at this

def leB (x y : List UInt8) : Bool := decide (cmpB x y ≤ 0)

/-- order.merge, over ids. -/
def msort (xs : List (List UInt8)) : List (List UInt8) :=
  if h : xs.length < 2 then xs else List.merge (msort (xs.take (xs.length / 2))) (msort (xs.drop (xs.length / 2))) leB
termination_by xs.length
decreasing_by all_goals simp; omega

theorem msort_small (xs : List (List UInt8)) (h : xs.length < 2) : msort xs = xs := by rw [msort, dif_pos h]
theorem msort_big (xs : List (List UInt8)) (h : ¬ xs.length < 2) : msort xs = List.merge (msort (xs.take (xs.length / 2))) (msort (xs.drop (xs.length / 2))) leB := by rw [msort, dif_neg h]

theorem msort_perm (xs : List (List UInt8)) : (msort xs).Perm xs := by
  induction hn : xs.length using Nat.strongRecOn generalizing xs with
  | _ n ih =>
    subst hn
    by_cases h : xs.length < 2
    · rw [msort_small xs h]
    · rw [msort_big xs h]
      have h1 := ih (xs.take (xs.length / 2)).length (by simp; omega) _ rfl
      have h2 := ih (xs.drop (xs.length / 2)).length (by simp; omega) _ rfl
      refine (List.merge_perm_append ..).trans ((h1.append h2).trans ?_)
      rw [List.take_append_drop]

theorem msort_length (xs : List (List UInt8)) : (msort xs).length = xs.length := (msort_perm xs).length_eq
theorem msort_32 {xs : List (List UInt8)} (h : ∀ x ∈ xs, x.length = 32) : ∀ x ∈ msort xs, x.length = 32 := fun x hx => h x ((msort_perm xs).mem_iff.1 hx)

theorem leB_trans (a b c : List UInt8) (h1 : leB a b = true) (h2 : leB b c = true) : leB a c = true := by
  simp only [leB, decide_eq_true_eq] at *
  exact (cmpB_trans a b c h1 h2).1
theorem leB_total (a b : List UInt8) : (leB a b || leB b a) = true := by
  simp only [leB, Bool.or_eq_true, decide_eq_true_eq]
  rw [cmpB_anti a b]; omega
theorem leB_anti (a b : List UInt8) (h1 : leB a b = true) (h2 : leB b a = true) : a = b := by
  simp only [leB, decide_eq_true_eq] at *
  rw [cmpB_anti a b] at h2
  exact (cmpB_zero a b).1 (by omega)

theorem msort_sorted (xs : List (List UInt8)) : (msort xs).Pairwise (fun a b => leB a b = true) := by
  induction hn : xs.length using Nat.strongRecOn generalizing xs with
  | _ n ih =>
    subst hn
    by_cases h : xs.length < 2
    · rw [msort_small xs h]
      match xs, h with
      | [], _ => simp
      | [a], _ => simp
      | _ :: _ :: _, h => simp at h; omega
    · rw [msort_big xs h]
      exact List.pairwise_merge leB_trans leB_total _ _ (ih _ (by simp; omega) _ rfl) (ih _ (by simp; omega) _ rfl)

end Go.Proofs.Ytmmmimkikakalaa

namespace Go.Proofs.Ytmmmimkikakalaa
open Go.RowKit
set_option linter.unusedVariables false

theorem info23 : (Try.prog.info? 24).map (fun i => (i.zero, i.size, i.bytes)) = some (some (.agg (Array.replicate 32 (.int .u8 0))), 32, 32) := by kernel_rfl

theorem wpList_append_ids {w : World} {ops : Array Oper} {rest : List Oper} {o : Oper} {a : Act} {Q : Exit → Act → World → Prop} (hgd : o.guard = none) (s x : Operand)
    (ho : o.op = .call { callee := .builtin .append, args := #[s, x], argTypes := #[30, 30] })
    (base : Nat) (v : Value) (O A : List (List UInt8)) (hs : a.eval s = v) (hown : w.ownsRow base 24 32 v O.length (idsC O))
    (ad : Option Addr) (cap : Nat) (hx : a.eval x = .slice ad A.length cap) (hA : IdsIn w ad A) (hn : ad = none → A = [] ∧ cap = 0) (hlen : O.length + A.length ≤ 4000000) (hbase : base ≤ w.heap.size)
    (h : ∀ v' w', w'.ownsRow base 24 32 v' (O ++ A).length (idsC (O ++ A)) → Below base w w' → wpList Try.prog ops Q rest (a.put o.dst v') w') : wpList Try.prog ops Q (o :: rest) a w := by
  have hi := info23
  cases hq : Try.prog.info? 24 with
  | none => rw [hq] at hi; cases hi
  | some i =>
    rw [hq] at hi
    simp only [Option.map_some, Option.some.injEq, Prod.mk.injEq] at hi
    obtain ⟨hz0, hz1, hz2⟩ := hi
    cases ad with
    | none =>
      obtain ⟨rfl, rfl⟩ := hn rfl
      refine wpList_append_own_none hgd s x 30 ho base 24 i 32 Try.underlying30 hq v O.length (idsC O) hs hown hx ?_
      exact h v w (by simpa using hown) (Below.refl _ _)
    | some ad =>
      have hc : ∀ j u, (idsC A)[j]? = some u → w.cell? (ad.add j) = some u := by
        rcases hA.2 with rfl | ⟨b, off, he, hc⟩
        · intro j u hj; simp [idsC] at hj
        · cases he
          exact ids_cells hA.1 hc
      refine wpList_append_own w hgd s x 30 ho base 24 i _ 32 32 Try.underlying30 hq hz0 hz1 hz2 rfl (by decide) v O.length (idsC O) hs hown ad A.length cap (idsC A) hx (idsC_length A hA.1) hc (idsC_one A) (by unfold maxLen; omega) (by omega) hbase ?_
      intro v' w' h1 h2 _
      refine h v' w' (by rw [List.length_append, idsC_append]; exact h1) ((Below.refl _ _).grown h2 hbase (fun k hk => ?_))
      obtain ⟨_, ⟨rfl, _⟩ | ⟨g, cap', cur, rfl, hg, _⟩⟩ := hown
      · cases hk
      · simp only [Value.ownBlock, Option.some.injEq] at hk; omega

/-- The same of one id in a new slice; the row's own block alone is written. -/
theorem wpList_append_one {w : World} {ops : Array Oper} {rest : List Oper} {o : Oper} {a : Act} {Q : Exit → Act → World → Prop} (hgd : o.guard = none) (s x : Operand)
    (ho : o.op = .call { callee := .builtin .append, args := #[s, x], argTypes := #[30, 30] })
    (base : Nat) (v : Value) (O A : List (List UInt8)) (hs : a.eval s = v) (hown : w.ownsRow base 24 32 v O.length (idsC O))
    (ad : Addr) (cap : Nat) (hx : a.eval x = .slice (some ad) A.length cap) (hA : IdsIn w (some ad) A) (hlen : O.length + A.length ≤ 4000000) (hbase : base ≤ w.heap.size)
    (h : ∀ v' w', w'.ownsRow base 24 32 v' (O ++ A).length (idsC (O ++ A)) → w.grownBy w' v.ownBlock ∧ Below base w w' → wpList Try.prog ops Q rest (a.put o.dst v') w') : wpList Try.prog ops Q (o :: rest) a w := by
  have hi := info23
  cases hq : Try.prog.info? 24 with
  | none => rw [hq] at hi; cases hi
  | some i =>
    rw [hq] at hi
    simp only [Option.map_some, Option.some.injEq, Prod.mk.injEq] at hi
    obtain ⟨hz0, hz1, hz2⟩ := hi
    have hc : ∀ j u, (idsC A)[j]? = some u → w.cell? (ad.add j) = some u := by
      rcases hA.2 with rfl | ⟨b, off, he, hc⟩
      · intro j u hj; simp [idsC] at hj
      · cases he
        exact ids_cells hA.1 hc
    refine wpList_append_own w hgd s x 30 ho base 24 i _ 32 32 Try.underlying30 hq hz0 hz1 hz2 rfl (by decide) v O.length (idsC O) hs hown ad A.length cap (idsC A) hx (idsC_length A hA.1) hc (idsC_one A) (by unfold maxLen; omega) (by omega) hbase ?_
    intro v' w' h1 h2 _
    refine h v' w' (by rw [List.length_append, idsC_append]; exact h1) ⟨h2, (Below.refl _ _).grown h2 hbase (fun k hk => ?_)⟩
    obtain ⟨_, ⟨rfl, _⟩ | ⟨g, cap', cur, rfl, hg, _⟩⟩ := hown
    · cases hk
    · simp only [Value.ownBlock, Option.some.injEq] at hk; omega

/-- make([]Id, 0, n). -/
theorem run_make_ids (w : World) (n : Nat) (hn : n ≤ 4000000) : ∃ v w', (Instr.makeSlice 30 (.int .i64 0) (.int .i64 (n : Int))).run Try.prog w = .ok v w' ∧
    w'.ownsRow w.heap.size 24 32 v ([] : List (List UInt8)).length (idsC []) ∧ Below w.heap.size w w' := by
  have hi := info23
  cases hq : Try.prog.info? 24 with
  | none => rw [hq] at hi; cases hi
  | some i =>
    rw [hq] at hi
    simp only [Option.map_some, Option.some.injEq, Prod.mk.injEq] at hi
    obtain ⟨hz0, hz1, hz2⟩ := hi
    obtain ⟨w', h1, h2, h3⟩ := run_make_own (P := Try.prog) w w.heap.size 30 24 i _ 32 Try.underlying30 hq hz0 hz1 .i64 .i64 n (by rw [hz2]; omega) (by unfold maxLen; omega) (Nat.le_refl _)
    exact ⟨_, w', h1, h2, (Below.refl _ _).grown h3 (Nat.le_refl _) (fun k hk => by cases hk)⟩

/-- What stands in a slice, with what bounds it. -/
def SlI (W : World) (v : Value) (A : List (List UInt8)) : Prop := ∃ a c, v = .slice a A.length c ∧ A.length ≤ c ∧ c ≤ maxLen ∧ IdsIn W a A ∧ (a = none → A = [] ∧ c = 0)
theorem SlI_row {w : World} {base : Nat} {v : Value} {xs : List (List UInt8)} (h32 : ∀ x ∈ xs, x.length = 32) (h : w.ownsRow base 24 32 v xs.length (idsC xs)) : SlI w v xs := by
  obtain ⟨a, c, rfl, h1, h2, h3⟩ := row_ids h32 h
  refine ⟨a, c, rfl, h1, ?_, h2, h3⟩
  obtain ⟨_, ⟨he, hn⟩ | ⟨g, cap', cur, he, hg, _, _, hm, _⟩⟩ := h
  · injection he with e1 e2 e3; subst e3; unfold maxLen; omega
  · injection he with e1 e2 e3; subst e3; exact hm
theorem SlI_below {w w' : World} {v : Value} {xs : List (List UInt8)} (h : SlI w v xs) (hb : Below w.heap.size w w') : SlI w' v xs := by
  obtain ⟨a, c, h0, h1, h2, h3, h4⟩ := h
  exact ⟨a, c, h0, h1, h2, h3.below hb, h4⟩
theorem SlI_cons {W : World} {v : Value} {x : List UInt8} {xs : List (List UInt8)} (h : SlI W v (x :: xs)) : ∃ b off c, v = .slice (some ⟨b, off, none⟩) (xs.length + 1) (c + 1) ∧ xs.length ≤ c ∧ c + 1 ≤ maxLen ∧ x.length = 32 ∧
    (fits W ⟨b, off, none⟩ 32 ∧ aggAt W ⟨b, off, none⟩ 32 = idB x) ∧ SlI W (.slice (some ⟨b, off + 32, none⟩) xs.length c) xs := by
  obtain ⟨a, c, rfl, h1, h2, h3, h4⟩ := h
  rcases h3.2 with h0 | ⟨b, off, rfl, hc⟩
  · cases h0
  · obtain ⟨c, rfl⟩ : ∃ c', c = c' + 1 := ⟨c - 1, by simp at h1; omega⟩
    refine ⟨b, off, c, rfl, by simpa using h1, h2, h3.1 _ (by simp), ?_, _, c, rfl, by simpa using h1, by omega, ids_tail h3, fun e => by cases e⟩
    have := hc 0 (by simp)
    simpa using this

end Go.Proofs.Ytmmmimkikakalaa

namespace Go.Proofs.Ytmmmimkikakalaa
open Go.RowKit
set_option linter.unusedVariables false

def fcmp : Value := .func (.func 44) #[] #[]

set_option maxHeartbeats 4000000 in
set_option maxRecDepth 100000 in
theorem merge_small (a : Option Addr) (cap : Nat) (xs : List (List UInt8)) (w : World) (h2 : xs.length < 2) (hin : IdsIn w a xs) (hn : a = none → xs = [] ∧ cap = 0) :
    Calls Try.prog 57 #[.slice a xs.length cap, fcmp] w fun e w' => ∃ v, e = .returned v ∧ w'.ownsRow w.heap.size 24 32 v xs.length (idsC xs) ∧ Below w.heap.size w w' := by
  have hi2 : (xs.length : Int) < 2 := by omega
  have HIN := Lib.hid hin
  have HN := Lib.hid hn
  clear hin hn
  have hl : Lib.hid (show xs.length ≤ 1 by omega) = Lib.hid (show xs.length ≤ 1 by omega) := rfl
  clear hl
  have HL := Lib.hid (show xs.length ≤ 1 by omega)
  unfold fcmp
  go_enter Try.func57, Try.ntmps57
  go_wp2_with (at_builtin; refine wpList_append_ids rfl _ _ rfl w.heap.size (.slice none 0 0) [] xs rfl ⟨by simp [idsC], .inl ⟨rfl, rfl⟩⟩ a cap rfl HIN.out HN.out (by have := HL.out; simp; omega) (Nat.le_refl _) ?_)
  rintro v' w' hown hb
  have HO := Lib.hid hown
  have HB := Lib.hid hb
  clear hown hb
  go_wp2
  go_ret
  exact ⟨_, rfl, by simpa using HO.out, HB.out⟩

end Go.Proofs.Ytmmmimkikakalaa
