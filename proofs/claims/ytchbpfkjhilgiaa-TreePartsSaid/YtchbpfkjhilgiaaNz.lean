/- The reference's Copy. -/
import Derived.Test.YtchbpfkjhilgiaaNx
import Derived.Test.YtchbpfkjhilgiaaHd
import Derived.Test.YtchbpfkjhilgiaaK
namespace Go.Proofs.Ytchbpfkjhilgiaa
open Go.RowKit Go.WideShapes Go.ChangeShapes Go.ChangeMaps Go.Deep
set_option linter.unusedVariables false
theorem row_new0 (w : World) : nodeR.row 40 w.heap.size [] (.slice (some ⟨w.heap.size, 0, none⟩) 0 0) (w.alloc (.cells #[] 40)) :=
  ⟨fun x hx => (by cases hx), rfl, .inr ⟨w.heap.size, 0, #[], rfl, Nat.le_refl _, (MapKept.heap_alloc w _).1, Nat.le_refl _, by unfold maxLen; omega, rfl, rfl⟩⟩
set_option maxHeartbeats 4000000 in
set_option maxRecDepth 100000 in
theorem copy_any (p : Option Addr) (c : Nat) (l : List Nd) (w : World) (hlen : l.length ≤ 1000) (hin : nodeR.In w p l) (hn : p = none → l = [] ∧ c = 0) :
    Calls Try.prog 18 #[.slice p l.length c] w fun e w' => ∃ v, e = .returned v ∧ nodeR.row 40 w.heap.size l v w' ∧ Below w.heap.size w w' := by
  have hb1 : Below w.heap.size w (w.alloc (.cells #[] 40)) := (Below.refl w.heap.size w).alloc (Nat.le_refl _) (.cells #[] 40)
  have hr := row_new0 w
  have HI := Lib.hid (hin.below hb1)
  have HR := Lib.hid hr
  have HN := Lib.hid hn
  have HB := Lib.hid hb1
  have HLN := Lib.hid (show ([] : List Nd).length + l.length ≤ 100000000 from by simp; omega)
  clear hin hn hb1 hr
  go_enter Try.func18, Try.ntmps18
  go_wp2_with (at_builtin; refine Rec.wpList_app node22 rfl _ _ rfl w.heap.size _ [] l l rfl rfl HR.out p c rfl HI.out HN.out HLN.out HB.out.size ?_)
  intro v w2 hr2 hg2 hb2
  have HR2 := Lib.hid hr2
  have HB2 := Lib.hid (HB.out.trans (hb2.mono (Nat.le_refl _)))
  clear hr2 hg2 hb2
  go_wp2
  go_ret
  exact ⟨_, rfl, HR2.out, HB2.out⟩
end Go.Proofs.Ytchbpfkjhilgiaa

namespace Go.Proofs.Ytchbpfkjhilgiaa
open Go.RowKit Go.WideShapes Go.ChangeShapes Go.ChangeMaps Go.Deep
set_option linter.unusedVariables false

/-- What an append does to the blocks: all are kept, or it writes behind the row in its own block. -/
def AppKeeps (size : Nat) (e : TypeId) (v : Value) (n : Nat) (news : List Value) (w w' : World) : Prop :=
  Below w.heap.size w w' ∨ ∃ g cap cur, v = .slice (some ⟨g, 0, none⟩) n cap ∧ w.heap[g]? = some (.cells cur e (0, 0)) ∧ cur.size = cap * size ∧ n * size + news.length ≤ cur.size ∧
    w'.heap[g]? = some (.cells (cur.toList.take (n * size) ++ news ++ cur.toList.drop (n * size + news.length)).toArray e (0, 0)) ∧ ∀ k, k ≠ g → w'.heap[k]? = w.heap[k]?
theorem append_where {P : Program} (w : World) (base : Nat) (t ty e : TypeId) (i : TypeInfo) (z : Value) (size bytes : Nat) (ht : P.underlying t = some (.slice e)) (hi : P.info? e = some i) (hz : i.zero = some z)
    (hsize : i.size = size) (hby : i.bytes = bytes)
    (v : Value) (n : Nat) (xs : List Value) (hown : w.ownsRow base e size v n xs)
    (a : Addr) (m c : Nat) (news : List Value) (hl : news.length = m * size) (hnews : ∀ j u, news[j]? = some u → w.cell? (a.add j) = some u) (h1 : ∀ u ∈ news, u.oneCell' = true)
    (h63 : n + m ≤ maxLen) (hbytes : (n + m) * bytes ≤ 140737488355328) (hm : 0 < m) {v' : Value} {w' : World}
    (hrun : (Builtin.append_ #[t, t] ty #[v, .slice (some a) m c]).run P w = .ok v' w') : AppKeeps size e v n news w w' := by
  subst hsize
  subst hby
  have hsmall : n + m ≤ 9223372036854775807 := by simp only [maxLen] at h63; omega
  have hnew : ∀ o, Below w.heap.size w (w.drew.alloc o) := fun o => ((below_drewN (Below.refl w.heap.size w) 1)).alloc (Nat.le_refl _) _
  rcases hown.2 with ⟨rfl, rfl⟩ | ⟨g', cap, cur, rfl, hbg, hgg, hnc, hcm, hcs, htake⟩
  · have hr := run_append_nil (P := P) w t ty e i z ht hi hz a m c news hl hnews (by omega) (by omega) (by have hb := hbytes; simp only [Nat.zero_add] at hb; omega)
    rw [hr] at hrun
    cases hrun
    exact .inl (hnew _)
  · by_cases hroom : n + m ≤ cap
    · have hfit : n * i.size + news.length ≤ cur.size := by rw [hl, hcs, ← Nat.add_mul]; exact Nat.mul_le_mul_right _ hroom
      have hr := run_append_room (P := P) w t ty e i ht hi g' n cap cur hgg a m c news hl hnews h1 hroom hfit
      rw [hr] at hrun
      cases hrun
      exact .inr ⟨g', cap, cur, rfl, hgg, hcs, hfit, setRow_heap w g' cur _ e _ hgg, fun k hk => setRow_other w g' k _ hk⟩
    · have holds : ∀ j u, xs[j]? = some u → w.cell? ((⟨g', 0, none⟩ : Addr).add j) = some u := hown.cells (g := g') rfl
      have hr := run_append_grow (P := P) w t ty e i z ht hi hz ⟨g', 0, none⟩ n cap xs hown.1 holds a m c news hl hnews (by omega) (by omega) (growslice_fits (by omega) hbytes)
      rw [hr] at hrun
      cases hrun
      exact .inl (hnew _)
/-- append(s, x...), and what it keeps. -/
theorem wpList_appK {α : Type} {R : Rec α} {P : Program} {t e : TypeId} {bytes : Nat} (hT : R.Ty P t e bytes) {w : World} {ops : Array Oper} {rest : List Oper} {o : Oper} {a : Act} {Q : Exit → Act → World → Prop} (hgd : o.guard = none) (s x : Operand)
    (ho : o.op = .call { callee := .builtin .append, args := #[s, x], argTypes := #[t, t] })
    (base : Nat) (v : Value) (O A O' : List α) (hO' : O' = O ++ A) (hs : a.eval s = v) (hown : R.row e base O v w)
    (ad : Addr) (cap : Nat) (hx : a.eval x = .slice (some ad) A.length cap) (hA : R.In w (some ad) A) (hA0 : 0 < A.length) (hlen : O.length + A.length ≤ 100000000) (hbase : base ≤ w.heap.size)
    (h : ∀ v' w', R.row e base O' v' w' → w.grownBy w' v.ownBlock → Below base w w' → AppKeeps R.sz e v O.length (R.cells A) w w' → wpList P ops Q rest (a.put o.dst v') w') : wpList P ops Q (o :: rest) a w := by
  subst hO'
  obtain ⟨i, z, hi, hz0, hz1, hz2, hz3⟩ := hT.info
  have hall : ∀ y ∈ O ++ A, R.ok y := fun y hy => (List.mem_append.1 hy).elim (hown.1 y) (hA.1 y)
  have hc : ∀ j u, (R.cells A)[j]? = some u → w.cell? (ad.add j) = some u := by
    rcases hA.2 with rfl | ⟨b, off, he, _, hc⟩
    · intro j u hj; simp [Rec.cells] at hj
    · cases he
      exact Rec.In.cells hA.1 hc
  have hb : (O.length + A.length) * bytes ≤ 140737488355328 := Nat.le_trans (Nat.mul_le_mul hlen hT.b) (by decide)
  obtain ⟨v', w', hr, h2, h3, h4⟩ := run_append_own (P := P) w base t o.type e i z R.sz bytes hT.u hi hz0 hz1 hz2 hz3 R.pos v O.length (R.cells O) hown.2 ad A.length cap (R.cells A) (R.cells_length A hA.1) hc (R.cells_one A hA.1) (by unfold maxLen; omega) hb hbase
  have hk := append_where (P := P) w base t o.type e i z R.sz bytes hT.u hi hz0 hz1 hz2 v O.length (R.cells O) hown.2 ad A.length cap (R.cells A) (R.cells_length A hA.1) hc (R.cells_one A hA.1) (by unfold maxLen; omega) hb hA0 hr
  refine wpList_plain hgd fun _ hK => ?_
  unfold Oper.wp execOp
  simp only [ho, resolve, invoke, builtin, Sem.run_bind, Sem.run_pure, Result.andThen_ok, List.map_toArray, List.map_cons, List.map_nil, hs, hx, hr]
  refine hK _ _ (h v' w' ⟨hall, by rw [List.length_append, R.cells_append]; exact h2⟩ h3 ((Below.refl _ _).grown h3 hbase (fun k hk => ?_)) hk)
  obtain ⟨_, _, ⟨rfl, _⟩ | ⟨g, cap', cur, rfl, hg, _⟩⟩ := hown
  · cases hk
  · simp only [Value.ownBlock, Option.some.injEq] at hk; omega

/-- A row whose block begins as it did. -/
theorem row_front {α : Type} {R : Rec α} {e : TypeId} {base : Nat} {O : List α} {v0 v : Value} {news : List Value} {w w' : World} (hk : AppKeeps R.sz e v0 O.length news w w') (h : R.row e base O v w) : R.row e base O v w' := by
  rcases hk with hb | ⟨g, cap, cur, rfl, hg, hcs, hfit, hg', hoth⟩
  · exact h.below hb
  · obtain ⟨hok, hl, h0 | ⟨g1, cap1, cur1, rfl, hg1, hb1, hc1, hm1, hs1, ht1⟩⟩ := h
    · exact ⟨hok, hl, .inl h0⟩
    · by_cases he : g1 = g
      · subst he
        rw [hg] at hb1
        cases hb1
        refine ⟨hok, hl, .inr ⟨g1, cap1, _, rfl, hg1, hg', hc1, hm1, ?_, ?_⟩⟩
        · simp only [List.size_toArray, List.length_append, List.length_take, List.length_drop, Array.length_toList]
          omega
        · have hle : O.length * R.sz ≤ (cur.toList.take (O.length * R.sz)).length := by
            have h9 : cur.toList.length = cur.size := Array.length_toList
            rw [List.length_take, h9]; omega
          rw [← ht1, List.append_assoc, List.take_append_of_le_length hle, List.take_take, Nat.min_self]
      · exact ⟨hok, hl, .inr ⟨g1, cap1, cur1, rfl, hg1, (hoth g1 he).trans hb1, hc1, hm1, hs1, ht1⟩⟩
/-- A block of one record, which is what is written. -/
theorem one_front {α : Type} {R : Rec α} {e : TypeId} {n : Nat} {v0 : Value} {x : α} {C : Array Value} (hC : C.toList = R.cells [x]) (hok : R.ok x) {w w' : World} (hk : AppKeeps R.sz e v0 n (R.cells [x]) w w') {g : Nat} (h : w.heap[g]? = some (.cells C e (0, 0))) : w'.heap[g]? = some (.cells C e (0, 0)) := by
  rcases hk with hb | ⟨g1, cap, cur, rfl, hg, hcs, hfit, hg', hoth⟩
  · exact (hb.block g (Array.getElem?_eq_some_iff.1 h).1).trans h
  · by_cases he : g = g1
    · subst he
      rw [h] at hg
      cases hg
      rw [hg']
      have hl : C.size = (R.cells [x]).length := by rw [← hC, Array.length_toList]
      have hn : n * R.sz = 0 := by omega
      have hl' : C.toList.length = (R.cells [x]).length := by rw [hC]
      rw [hn, List.take_zero, List.nil_append, Nat.zero_add, List.drop_of_length_le (by omega), List.append_nil, ← hC]
    · exact (hoth g he).trans h
end Go.Proofs.Ytchbpfkjhilgiaa
