/- append on a row of one's own: what lay there lies there still. -/
import Derived.Test.YtipoifokcnbfnaaKe
namespace Go.Proofs.Ytipoifokcnbfnaa
open Go.RowKit
set_option linter.unusedVariables false

theorem append_keep {P : Program} (w : World) (base : Nat) (t ty e : TypeId) (i : TypeInfo) (z : Value) (size bytes : Nat) (ht : P.underlying t = some (.slice e)) (hi : P.info? e = some i) (hz : i.zero = some z)
    (hsize : i.size = size) (hby : i.bytes = bytes)
    (v : Value) (n : Nat) (xs : List Value) (hown : w.ownsRow base e size v n xs)
    (a : Addr) (m c : Nat) (news : List Value) (hl : news.length = m * size) (hnews : ∀ j u, news[j]? = some u → w.cell? (a.add j) = some u) (h1 : ∀ u ∈ news, u.oneCell' = true)
    (h63 : n + m ≤ maxLen) (hbytes : (n + m) * bytes ≤ 140737488355328) {v' : Value} {w' : World}
    (hrun : (Builtin.append_ #[t, t] ty #[v, .slice (some a) m c]).run P w = .ok v' w') :
    ∀ g, v.ownBlock = some g → ∀ j u, xs[j]? = some u → w'.cell? ⟨g, j, none⟩ = some u := by
  subst hsize
  subst hby
  intro g hg j u hu
  have hadd : (⟨g, 0, none⟩ : Addr).add j = ⟨g, j, none⟩ := by unfold Addr.add; split <;> simp_all
  have hold := hown.cells hg j u hu
  rw [hadd] at hold
  rcases hown.2 with ⟨rfl, rfl⟩ | ⟨g', cap, cur, rfl, hbg, hgg, hnc, hcm, hcs, htake⟩
  · cases hg
  · simp only [Value.ownBlock, Option.some.injEq] at hg
    subst hg
    have hjl : j < n * i.size := by rw [← hown.1]; exact (List.getElem?_eq_some_iff.1 hu).1
    have hsmall : n + m ≤ 9223372036854775807 := by simp only [maxLen] at h63; omega
    by_cases hroom : n + m ≤ cap
    · have hfit : n * i.size + news.length ≤ cur.size := by rw [hl, hcs, ← Nat.add_mul]; exact Nat.mul_le_mul_right _ hroom
      have hr := run_append_room (P := P) w t ty e i ht hi g' n cap cur hgg a m c news hl hnews h1 hroom hfit
      rw [hr] at hrun
      cases hrun
      rw [cell_of_row _ g' j _ e (0, 0) (setRow_heap w g' cur _ e _ hgg)]
      rw [cell_of_row _ g' j _ e (0, 0) hgg] at hold
      rw [← hold]
      rw [List.getElem?_toArray, List.append_assoc, List.getElem?_append_left (by simp; omega), List.getElem?_take, if_pos hjl]
      simp
    · have holds : ∀ j u, xs[j]? = some u → w.cell? ((⟨g', 0, none⟩ : Addr).add j) = some u := hown.cells (g := g') rfl
      have hr := run_append_grow (P := P) w t ty e i z ht hi hz ⟨g', 0, none⟩ n cap xs hown.1 holds a m c news hl hnews (by omega) (by omega) (growslice_fits (by omega) hbytes)
      rw [hr] at hrun
      cases hrun
      have hlt : g' < w.heap.size := (Array.getElem?_eq_some_iff.1 hgg).1
      rw [← hold]
      exact World.cell?_of_block (w := w) (heap_alloc_old w.drew _ hlt)
/-- append(s, x...), and what lay there lies there still. -/
theorem wpList_appK {α : Type} {R : Rec α} {P : Program} {t e : TypeId} {bytes : Nat} (hT : R.Ty P t e bytes) {w : World} {ops : Array Oper} {rest : List Oper} {o : Oper} {a : Act} {Q : Exit → Act → World → Prop} (hgd : o.guard = none) (s x : Operand)
    (ho : o.op = .call { callee := .builtin .append, args := #[s, x], argTypes := #[t, t] })
    (base : Nat) (v : Value) (O A O' : List α) (hO' : O' = O ++ A) (hs : a.eval s = v) (hown : R.row e base O v w)
    (ad : Addr) (cap : Nat) (hx : a.eval x = .slice (some ad) A.length cap) (hA : R.In w (some ad) A) (hlen : O.length + A.length ≤ 100000000) (hbase : base ≤ w.heap.size)
    (h : ∀ v' w', R.row e base O' v' w' → w.grownBy w' v.ownBlock → Below base w w' → (∀ g, v.ownBlock = some g → ∀ j u, (R.cells O)[j]? = some u → w'.cell? ⟨g, j, none⟩ = some u) → wpList P ops Q rest (a.put o.dst v') w') : wpList P ops Q (o :: rest) a w := by
  subst hO'
  obtain ⟨i, z, hi, hz0, hz1, hz2, hz3⟩ := hT.info
  have hall : ∀ y ∈ O ++ A, R.ok y := fun y hy => (List.mem_append.1 hy).elim (hown.1 y) (hA.1 y)
  have hc : ∀ j u, (R.cells A)[j]? = some u → w.cell? (ad.add j) = some u := by
    rcases hA.2 with rfl | ⟨b, off, he, _, hc⟩
    · intro j u hj; simp [Rec.cells] at hj
    · cases he
      exact Rec.In.cells hA.1 hc
  have hb : (O.length + A.length) * bytes ≤ 140737488355328 := Nat.le_trans (Nat.mul_le_mul hlen hT.b) (by decide)
  obtain ⟨v', w', hr, h2, h3, h4⟩ := run_append_own (P := P) w base t o.type e i z R.sz bytes hT.u hi hz0 hz1 hz2 hz3 R.pos v O.length (R.cells O) hown.2 ad A.length cap (R.cells A) (R.cells_length A hA.1) hc (R.cells_one A hA.1) (by unfold maxLen; omega) hb hbase
  have hk := append_keep (P := P) w base t o.type e i z R.sz bytes hT.u hi hz0 hz1 hz2 v O.length (R.cells O) hown.2 ad A.length cap (R.cells A) (R.cells_length A hA.1) hc (R.cells_one A hA.1) (by unfold maxLen; omega) hb hr
  refine wpList_plain hgd fun _ hK => ?_
  unfold Oper.wp execOp
  simp only [ho, resolve, invoke, builtin, Sem.run_bind, Sem.run_pure, Result.andThen_ok, List.map_toArray, List.map_cons, List.map_nil, hs, hx, hr]
  refine hK _ _ (h v' w' ⟨hall, by rw [List.length_append, R.cells_append]; exact h2⟩ h3 ((Below.refl _ _).grown h3 hbase (fun k hk => ?_)) hk)
  obtain ⟨_, _, ⟨rfl, _⟩ | ⟨g, cap', cur, rfl, hg, _⟩⟩ := hown
  · cases hk
  · simp only [Value.ownBlock, Option.some.injEq] at hk; omega
end Go.Proofs.Ytipoifokcnbfnaa
