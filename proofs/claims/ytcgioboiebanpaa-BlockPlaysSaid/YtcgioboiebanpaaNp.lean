/- An append, and what it keeps. -/
import Derived.Test.YtcgioboiebanpaaNn
import Derived.StillTailTactics
namespace Go.Proofs.Ytcgioboiebanpaa
open Go.RowKit Go.Maps
set_option linter.unusedVariables false

/-- What an append does to the blocks: all are kept, or it writes behind the row in its own block. -/
def AppKeeps (size : Nat) (e : TypeId) (v : Value) (n : Nat) (news : List Value) (w w' : World) : Prop :=
  Below w.heap.size w w' ∨ ∃ g cap cur, v = .slice (some ⟨g, 0, none⟩) n cap ∧ w.heap[g]? = some (.cells cur e (0, 0)) ∧ cur.size = cap * size ∧ n * size + news.length ≤ cur.size ∧
    w'.heap[g]? = some (.cells (cur.toList.take (n * size) ++ news ++ cur.toList.drop (n * size + news.length)).toArray e (0, 0)) ∧ ∀ k, k ≠ g → w'.heap[k]? = w.heap[k]?
theorem append_where {P : Program} (w : World) (base : Nat) (t ty e : TypeId) (i : TypeInfo) (z : Value) (size bytes : Nat) (ht : P.underlying t = some (.slice e)) (hi : P.info? e = some i) (hz : i.zero = some z)
    (hsize : i.size = size) (hby : i.bytes = bytes)
    (v : Value) (n : Nat) (xs : List Value) (hown : w.ownsRow base e size v n xs)
    (a : Addr) (m c : Nat) (news : List Value) (hl : news.length = m * size) (hnews : ∀ j u, news[j]? = some u → w.cell? (a.add j) = some u) (h1 : ∀ u ∈ news, u.oneCell' = true)
    (h63 : n + m ≤ maxLen) (hbytes : (n + m) * bytes ≤ 140737488355328) (hm : 0 < m) {v' : Value} {w' : World}
    (hrun : (Builtin.append_ #[t, t] ty #[v, .slice (some a) m c]).run P w = .ok v' w') : AppKeeps size e v n news w w' := by
  subst hsize
  subst hby
  have hsmall : n + m ≤ 9223372036854775807 := by simp only [maxLen] at h63; omega
  have hnew : ∀ o, Below w.heap.size w (w.drew.alloc o) := fun o => ((below_drewN (Below.refl w.heap.size w) 1)).alloc (Nat.le_refl _) _
  rcases hown.2 with ⟨rfl, rfl⟩ | ⟨g', cap, cur, rfl, hbg, hgg, hnc, hcm, hcs, htake⟩
  · have hr := run_append_nil (P := P) w t ty e i z ht hi hz a m c news hl hnews (by omega) (by omega) (by have hb := hbytes; simp only [Nat.zero_add] at hb; omega)
    rw [hr] at hrun
    cases hrun
    exact .inl (hnew _)
  · by_cases hroom : n + m ≤ cap
    · have hfit : n * i.size + news.length ≤ cur.size := by rw [hl, hcs, ← Nat.add_mul]; exact Nat.mul_le_mul_right _ hroom
      have hr := run_append_room (P := P) w t ty e i ht hi g' n cap cur hgg a m c news hl hnews h1 hroom hfit
      rw [hr] at hrun
      cases hrun
      exact .inr ⟨g', cap, cur, rfl, hgg, hcs, hfit, setRow_heap w g' cur _ e _ hgg, fun k hk => setRow_other w g' k _ hk⟩
    · have holds : ∀ j u, xs[j]? = some u → w.cell? ((⟨g', 0, none⟩ : Addr).add j) = some u := hown.cells (g := g') rfl
      have hr := run_append_grow (P := P) w t ty e i z ht hi hz ⟨g', 0, none⟩ n cap xs hown.1 holds a m c news hl hnews (by omega) (by omega) (growslice_fits (by omega) hbytes)
      rw [hr] at hrun
      cases hrun
      exact .inl (hnew _)
/-- append(s, x...), and what it keeps. -/
theorem wpList_appK {α : Type} {R : Rec α} {P : Program} {t e : TypeId} {bytes : Nat} (hT : R.Ty P t e bytes) {w : World} {ops : Array Oper} {rest : List Oper} {o : Oper} {a : Act} {Q : Exit → Act → World → Prop} (hgd : o.guard = none) (s x : Operand)
    (ho : o.op = .call { callee := .builtin .append, args := #[s, x], argTypes := #[t, t] })
    (base : Nat) (v : Value) (O A O' : List α) (hO' : O' = O ++ A) (hs : a.eval s = v) (hown : R.row e base O v w)
    (ad : Addr) (cap : Nat) (hx : a.eval x = .slice (some ad) A.length cap) (hA : R.In w (some ad) A) (hA0 : 0 < A.length) (hlen : O.length + A.length ≤ 100000000) (hbase : base ≤ w.heap.size)
    (h : ∀ v' w', R.row e base O' v' w' → w.grownBy w' v.ownBlock → Below base w w' → AppKeeps R.sz e v O.length (R.cells A) w w' → wpList P ops Q rest (a.put o.dst v') w') : wpList P ops Q (o :: rest) a w := by
  subst hO'
  obtain ⟨i, z, hi, hz0, hz1, hz2, hz3⟩ := hT.info
  have hall : ∀ y ∈ O ++ A, R.ok y := fun y hy => (List.mem_append.1 hy).elim (hown.1 y) (hA.1 y)
  have hc : ∀ j u, (R.cells A)[j]? = some u → w.cell? (ad.add j) = some u := by
    rcases hA.2 with rfl | ⟨b, off, he, _, hc⟩
    · intro j u hj; simp [Rec.cells] at hj
    · cases he
      exact Rec.In.cells hA.1 hc
  have hb : (O.length + A.length) * bytes ≤ 140737488355328 := Nat.le_trans (Nat.mul_le_mul hlen hT.b) (by decide)
  obtain ⟨v', w', hr, h2, h3, h4⟩ := run_append_own (P := P) w base t o.type e i z R.sz bytes hT.u hi hz0 hz1 hz2 hz3 R.pos v O.length (R.cells O) hown.2 ad A.length cap (R.cells A) (R.cells_length A hA.1) hc (R.cells_one A hA.1) (by unfold maxLen; omega) hb hbase
  have hk := append_where (P := P) w base t o.type e i z R.sz bytes hT.u hi hz0 hz1 hz2 v O.length (R.cells O) hown.2 ad A.length cap (R.cells A) (R.cells_length A hA.1) hc (R.cells_one A hA.1) (by unfold maxLen; omega) hb hA0 hr
  refine wpList_plain hgd fun _ hK => ?_
  unfold Oper.wp execOp
  simp only [ho, resolve, invoke, builtin, Sem.run_bind, Sem.run_pure, Result.andThen_ok, List.map_toArray, List.map_cons, List.map_nil, hs, hx, hr]
  refine hK _ _ (h v' w' ⟨hall, by rw [List.length_append, R.cells_append]; exact h2⟩ h3 ((Below.refl _ _).grown h3 hbase (fun k hk => ?_)) hk)
  obtain ⟨_, _, ⟨rfl, _⟩ | ⟨g, cap', cur, rfl, hg, _⟩⟩ := hown
  · cases hk
  · simp only [Value.ownBlock, Option.some.injEq] at hk; omega

/-- A row whose block begins as it did. -/
theorem row_front {α : Type} {R : Rec α} {e : TypeId} {base : Nat} {O : List α} {v0 v : Value} {news : List Value} {w w' : World} (hk : AppKeeps R.sz e v0 O.length news w w') (h : R.row e base O v w) : R.row e base O v w' := by
  rcases hk with hb | ⟨g, cap, cur, rfl, hg, hcs, hfit, hg', hoth⟩
  · exact h.below hb
  · obtain ⟨hok, hl, h0 | ⟨g1, cap1, cur1, rfl, hg1, hb1, hc1, hm1, hs1, ht1⟩⟩ := h
    · exact ⟨hok, hl, .inl h0⟩
    · by_cases he : g1 = g
      · subst he
        rw [hg] at hb1
        cases hb1
        refine ⟨hok, hl, .inr ⟨g1, cap1, _, rfl, hg1, hg', hc1, hm1, ?_, ?_⟩⟩
        · simp only [List.size_toArray, List.length_append, List.length_take, List.length_drop, Array.length_toList]
          omega
        · have hle : O.length * R.sz ≤ (cur.toList.take (O.length * R.sz)).length := by
            have h9 : cur.toList.length = cur.size := Array.length_toList
            rw [List.length_take, h9]; omega
          rw [← ht1, List.append_assoc, List.take_append_of_le_length hle, List.take_take, Nat.min_self]
      · exact ⟨hok, hl, .inr ⟨g1, cap1, cur1, rfl, hg1, (hoth g1 he).trans hb1, hc1, hm1, hs1, ht1⟩⟩
/-- A block of one record, which is what is written. -/
theorem one_front {α : Type} {R : Rec α} {e : TypeId} {n : Nat} {v0 : Value} {x : α} {C : Array Value} (hC : C.toList = R.cells [x]) (hok : R.ok x) {w w' : World} (hk : AppKeeps R.sz e v0 n (R.cells [x]) w w') {g : Nat} (h : w.heap[g]? = some (.cells C e (0, 0))) : w'.heap[g]? = some (.cells C e (0, 0)) := by
  rcases hk with hb | ⟨g1, cap, cur, rfl, hg, hcs, hfit, hg', hoth⟩
  · exact (hb.block g (Array.getElem?_eq_some_iff.1 h).1).trans h
  · by_cases he : g = g1
    · subst he
      rw [h] at hg
      cases hg
      rw [hg']
      have hl : C.size = (R.cells [x]).length := by rw [← hC, Array.length_toList]
      have hn : n * R.sz = 0 := by omega
      have hl' : C.toList.length = (R.cells [x]).length := by rw [hC]
      rw [hn, List.take_zero, List.nil_append, Nat.zero_add, List.drop_of_length_le (by omega), List.append_nil, ← hC]
    · exact (hoth g he).trans h
end Go.Proofs.Ytcgioboiebanpaa

namespace Go.Proofs.Ytcgioboiebanpaa
open Go.RowKit Go.Maps
set_option linter.unusedVariables false

/-- What a document's own work may change: its block, its runs' block. -/
structure Step (d : Nat) (v v' : Value) (w w' : World) : Prop where
  os : w'.os = w.os
  tape : w'.tape = w.tape
  output : w'.output = w.output
  size : w.heap.size ≤ w'.heap.size
  block : ∀ k, k < w.heap.size → k ≠ d → v.ownBlock ≠ some k → w'.heap[k]? = w.heap[k]?
  own : v'.ownBlock = v.ownBlock ∨ ∃ g, v'.ownBlock = some g ∧ w.heap.size ≤ g
theorem Step.of_below {d : Nat} {v : Value} {w w' : World} (h : Below w.heap.size w w') : Step d v v w w' := ⟨h.os, h.tape, h.output, h.size, fun k hk _ _ => h.block k hk, .inl rfl⟩
theorem Step.trans {d : Nat} {v v1 v2 : Value} {w w1 w2 : World} (h : Step d v v1 w w1) (k : Step d v1 v2 w1 w2) : Step d v v2 w w2 := by
  refine ⟨k.os.trans h.os, k.tape.trans h.tape, k.output.trans h.output, Nat.le_trans h.size k.size, fun i hi hd hv => ?_, ?_⟩
  · refine (k.block i (Nat.lt_of_lt_of_le hi h.size) hd ?_).trans (h.block i hi hd hv)
    rcases h.own with e | ⟨g, e, hg⟩
    · rw [e]; exact hv
    · rw [e]; intro hh; cases hh; omega
  · rcases k.own with e | ⟨g, e, hg⟩
    · rw [e]; exact h.own
    · exact .inr ⟨g, e, Nat.le_trans h.size hg⟩
theorem Step.cell {d : Nat} {v : Value} (w : World) (o : Nat) (u : Value) : Step d v v w (w.setCell ⟨d, o, none⟩ u) :=
  ⟨rfl, rfl, rfl, by simp, fun k _ hk _ => heap_setCell_ne w d o k u hk, .inl rfl⟩
theorem Step.grown {d : Nat} {v : Value} {w w' : World} (h : w.grownBy w' v.ownBlock) : Step d v v w w' :=
  ⟨h.os, h.tape, h.output, h.size, fun k hk _ hv => h.block k hk (fun e => hv e.symm), .inl rfl⟩
theorem row_keep {α : Type} {R : Rec α} {e : TypeId} {base : Nat} {O : List α} {v : Value} {w w' : World} (h : R.row e base O v w) (hk : ∀ g, v.ownBlock = some g → w'.heap[g]? = w.heap[g]?) : R.row e base O v w' := by
  obtain ⟨hok, hl, h0 | ⟨g, cap, cur, rfl, hg, hb, hr⟩⟩ := h
  · exact ⟨hok, hl, .inl h0⟩
  · exact ⟨hok, hl, .inr ⟨g, cap, cur, rfl, hg, (hk g rfl).trans hb, hr⟩⟩
/-- Where a row's block lies, and of which type it is. -/
theorem row_own {α : Type} {R : Rec α} {e : TypeId} {base : Nat} {O : List α} {v : Value} {w : World} (h : R.row e base O v w) {g : Nat} (hg : v.ownBlock = some g) : base ≤ g ∧ ∃ cur, w.heap[g]? = some (.cells cur e (0, 0)) := by
  obtain ⟨hok, hl, ⟨rfl, _⟩ | ⟨g', cap, cur, rfl, hb, hh, hr⟩⟩ := h
  · cases hg
  · cases hg; exact ⟨hb, cur, hh⟩

/-- Runes in a block of numbers. -/
def RuneIn (w : World) (a : Option Addr) (rs : List Int) : Prop := ∃ b off cur, a = some ⟨b, off, none⟩ ∧ w.heap[b]? = some (.cells cur 21 (0, 0)) ∧ ∀ i, i < rs.length → cur[off + i]? = some (.int .i32 (rs.getD i 0))
theorem RuneIn.ints {w : World} {a : Option Addr} {rs : List Int} (h : RuneIn w a rs) : IntsIn .i32 w a rs := by
  obtain ⟨b, off, cur, rfl, hb, hc⟩ := h
  exact .inr ⟨b, off, rfl, (Array.getElem?_eq_some_iff.1 hb).1, fun i hi => by rw [Lib.cell_of_heap hb]; exact hc i hi⟩
/-- Blocks of runes are kept. -/
def KeepN (w w' : World) : Prop := ∀ (k : Nat) cur, w.heap[k]? = some (.cells cur 21 (0, 0)) → w'.heap[k]? = some (.cells cur 21 (0, 0))
theorem KeepN.of_below {w w' : World} (h : Below w.heap.size w w') : KeepN w w' := fun k _ hk => (h.block k (Array.getElem?_eq_some_iff.1 hk).1).trans hk
theorem KeepN.trans {a b c : World} (h : KeepN a b) (k : KeepN b c) : KeepN a c := fun i cur hi => k i cur (h i cur hi)
theorem RuneIn.keep {w w' : World} {a : Option Addr} {rs : List Int} (h : RuneIn w a rs) (hk : KeepN w w') : RuneIn w' a rs := by
  obtain ⟨b, off, cur, ha, hb, hc⟩ := h
  exact ⟨b, off, cur, ha, hk b cur hb, hc⟩
theorem Step.keepN {d : Nat} {v v' : Value} {w w' : World} {c : Array Value} {xs : List RV} {base : Nat} (h : Step d v v' w w') (hd : w.heap[d]? = some (.cells c 66 (0, 0))) (hr : runR.row 70 base xs v w) : KeepN w w' := by
  intro k cur hk
  refine (h.block k (Array.getElem?_eq_some_iff.1 hk).1 ?_ ?_).trans hk
  · rintro rfl; rw [hd] at hk; cases hk
  · intro e; obtain ⟨_, cur', he⟩ := row_own hr e; rw [he] at hk; cases hk
/-- A run's cells tell a plain run. -/
structure Tells (w : World) (x : RV) (r : MR) : Prop where
  key : x.1 = r.1
  k32 : r.1.2.1.length = 32
  len : x.2.1.2.1 = r.2.1.length
  dead : x.2.2 = r.2.2
  runes : RuneIn w x.2.1.1 r.2.1
  pos : 0 < r.2.1.length
  cap : r.2.1.length ≤ x.2.1.2.2
  max : x.2.1.2.2 ≤ maxLen
theorem Tells.keep {w w' : World} {x : RV} {r : MR} (h : Tells w x r) (hk : KeepN w w') : Tells w' x r := ⟨h.key, h.k32, h.len, h.dead, h.runes.keep hk, h.pos, h.cap, h.max⟩
/-- A document: its cells in block d, its runs a row of its own above it. -/
structure Doc (w : World) (d : Nat) (v : Value) (zs : List (RV × MR)) (size live : Int) : Prop where
  cells : w.heap[d]? = some (.cells #[v, .int .i64 size, .int .i64 live] 66 (0, 0))
  row : runR.row 70 (d + 1) (zs.map (·.1)) v w
  tells : ∀ z ∈ zs, Tells w z.1 z.2
theorem Doc.below {w w' : World} {d : Nat} {v : Value} {zs : List (RV × MR)} {size live : Int} (h : Doc w d v zs size live) (hb : Below w.heap.size w w') : Doc w' d v zs size live :=
  ⟨(hb.block d (Array.getElem?_eq_some_iff.1 h.cells).1).trans h.cells, h.row.below hb, fun z hz => (h.tells z hz).keep (.of_below hb)⟩
theorem Doc.keepN {w w' : World} {d : Nat} {v v' : Value} {zs : List (RV × MR)} {size live : Int} (h : Doc w d v zs size live) (hs : Step d v v' w w') : KeepN w w' := hs.keepN h.cells h.row
/-- Two documents that share no block but runes. -/
def Apart (d : Nat) (v : Value) (e : Nat) (u : Value) : Prop := d ≠ e ∧ ∀ g, v.ownBlock = some g → u.ownBlock ≠ some g
theorem Apart.symm {d e : Nat} {v u : Value} (h : Apart d v e u) : Apart e u d v := ⟨fun e => h.1 e.symm, fun g hg hh => h.2 g hh hg⟩
theorem Doc.lt {w : World} {d : Nat} {v : Value} {zs : List (RV × MR)} {size live : Int} (h : Doc w d v zs size live) : d < w.heap.size := (Array.getElem?_eq_some_iff.1 h.cells).1
theorem Doc.other {w w' : World} {d e : Nat} {v u u' : Value} {zs ys : List (RV × MR)} {size live s l : Int} (h : Doc w d v zs size live) (he : Doc w e u ys s l) (ha : Apart d v e u) (hs : Step e u u' w w') : Doc w' d v zs size live ∧ Apart d v e u' := by
  refine ⟨⟨?_, ?_, fun z hz => (h.tells z hz).keep (he.keepN hs)⟩, ha.1, fun g hg => ?_⟩
  · refine (hs.block d h.lt ha.1 ?_).trans h.cells
    intro hh
    obtain ⟨_, cur', he'⟩ := row_own he.row hh
    rw [h.cells] at he'; cases he'
  · refine row_keep h.row fun g hg => ?_
    obtain ⟨_, cur, hh⟩ := row_own h.row hg
    refine hs.block g (Array.getElem?_eq_some_iff.1 hh).1 ?_ (ha.2 g hg)
    rintro rfl
    rw [he.cells] at hh; cases hh
  · obtain ⟨_, cur, hh⟩ := row_own h.row hg
    have hlt := (Array.getElem?_eq_some_iff.1 hh).1
    rcases hs.own with e | ⟨g', e, hg'⟩
    · rw [e]; exact ha.2 g hg
    · rw [e]; intro hh2; cases hh2; omega

theorem cells_take {α : Type} {R : Rec α} {O : List α} (k : Nat) (h : ∀ x ∈ O, R.ok x) (hk : k ≤ O.length) : (R.cells O).take (k * R.sz) = R.cells (O.take k) := by
  have h1 : R.cells O = R.cells (O.take k) ++ R.cells (O.drop k) := by rw [← R.cells_append, List.take_append_drop]
  have h2 : (R.cells (O.take k)).length = k * R.sz := by rw [R.cells_length _ (fun x hx => h x (List.mem_of_mem_take hx)), List.length_take, Nat.min_eq_left hk]
  rw [h1, List.take_append_of_le_length (by omega), List.take_of_length_le (by omega)]
/-- copy(l[i+1:], l[i:]). -/
theorem copy_in {α : Type} {R : Rec α} {P : Program} {t e : TypeId} {bytes : Nat} (hT : R.Ty P t e bytes) {base g n cap i c1 c2 : Nat} {O : List α} {w : World} (hn : O.length = n + 1) (hi : i < n)
    (h : R.row e base O (.slice (some ⟨g, 0, none⟩) (n + 1) cap) w) :
    ∃ w', (∀ ty, (Builtin.copy_ #[t, t] ty #[.slice (some ⟨g, (i + 1) * R.sz, none⟩) (n - i) c1, .slice (some ⟨g, i * R.sz, none⟩) (n + 1 - i) c2]).run P w = .ok (goInt ((n - i : Nat) : Int)) w') ∧
      R.row e base (O.take (i + 1) ++ (O.drop i).take (n - i)) (.slice (some ⟨g, 0, none⟩) (n + 1) cap) w' ∧ w.grownBy w' (some g) := by
  obtain ⟨hok, hl, ⟨he, _⟩ | ⟨g', cap', cur, he, hg, hh, hc, hm, hs, ht⟩⟩ := h
  · cases he
  injection he with e1 e2 e3
  injection e1 with e1
  injection e1 with e1
  subst e1 e3
  rw [hn] at hc ht
  obtain ⟨A, hA⟩ : ∃ A, A = (O.drop i).take (n - i) := ⟨_, rfl⟩
  have hAok : ∀ x ∈ A, R.ok x := fun x hx => hok x (List.mem_of_mem_drop (List.mem_of_mem_take (hA ▸ hx)))
  have hAl : A.length = n - i := by rw [hA, List.length_take, List.length_drop, hn]; omega
  have hcl : (R.cells A).length = (n - i) * R.sz := by rw [R.cells_length _ hAok, hAl]
  have hsplit : O = O.take i ++ (A ++ (O.drop i).drop (n - i)) := by rw [hA, List.take_append_drop, List.take_append_drop]
  have htl : (R.cells (O.take i)).length = i * R.sz := by rw [R.cells_length _ (fun x hx => hok x (List.mem_of_mem_take hx)), List.length_take, hn, Nat.min_eq_left (by omega)]
  have hcurl : cur.toList.length = cap * R.sz := by rw [Array.length_toList, hs]
  have hle : (n + 1) * R.sz ≤ cap * R.sz := Nat.mul_le_mul_right _ hc
  have hsum : (i + 1) * R.sz + (n - i) * R.sz = (n + 1) * R.sz := by rw [← Nat.add_mul]; congr 1; omega
  have hsum2 : i * R.sz + (n - i) * R.sz ≤ (n + 1) * R.sz := by rw [← Nat.add_mul]; exact Nat.mul_le_mul_right _ (by omega)
  have hsrc : ∀ j u, (R.cells A)[j]? = some u → w.cell? ((⟨g, i * R.sz, none⟩ : Addr).add j) = some u := by
    intro j u hj
    have hjl := (List.getElem?_eq_some_iff.1 hj).1
    rw [Addr.add_lit, Lib.cell_of_heap hh]
    have h1 : (R.cells O)[i * R.sz + j]? = some u := by
      rw [hsplit, R.cells_append, R.cells_append, List.getElem?_append_right (by omega), htl, Nat.add_sub_cancel_left, List.getElem?_append_left (by omega)]
      exact hj
    rw [← ht, List.getElem?_take_of_lt (by omega)] at h1
    rw [← Array.getElem?_toList]; exact h1
  have hl1 := run_loadCells_list (P := P) w ⟨g, i * R.sz, none⟩ (R.cells A) hsrc
  have hst := run_storeCells_off (P := P) g e ((i + 1) * R.sz) (R.cells A) 0 cur w hh (by rw [hcl, ← Array.length_toList, hcurl]; omega) (R.cells_one A hAok)
  obtain ⟨ii, z, hqi, _, hz1, _, _⟩ := hT.info
  simp only [Nat.add_zero] at hst
  obtain ⟨cur1, hcur1⟩ : ∃ c1, c1 = (cur.toList.take ((i + 1) * R.sz) ++ R.cells A ++ cur.toList.drop ((i + 1) * R.sz + (R.cells A).length)).toArray := ⟨_, rfl⟩
  rw [← hcur1] at hst
  refine ⟨w.setRow g cur1, fun ty => ?_, ⟨?_, ?_, .inr ⟨g, cap, cur1, ?_, hg, setRow_heap w g cur cur1 e _ hh, ?_, hm, ?_, ?_⟩⟩, ⟨rfl, rfl, rfl, by simp, fun k _ hk => setRow_other w g k _ (fun e => hk (by rw [e]))⟩⟩
  · have hmin : Nat.min (n + 1 - i) (n - i) = n - i := Nat.min_eq_right (by omega)
    rw [hcl] at hl1
    simp [Builtin.copy_, run_underlying hT.u, Builtin.lenOf, Builtin.firstCells, sizeOf, typeInfo, hqi, hz1, hmin, hl1, hst]
  · intro x hx
    rcases List.mem_append.1 hx with hx | hx
    · exact hok x (List.mem_of_mem_take hx)
    · exact hAok x (hA ▸ hx)
  · rw [R.cells_length _ (by
      intro x hx
      rcases List.mem_append.1 hx with hx | hx
      · exact hok x (List.mem_of_mem_take hx)
      · exact hAok x (hA ▸ hx))]
  · have : (O.take (i + 1) ++ (O.drop i).take (n - i)).length = n + 1 := by rw [List.length_append, ← hA, hAl, List.length_take, hn]; omega
    rw [this]
  · rw [List.length_append, ← hA, hAl, List.length_take, hn]; omega
  · rw [hcur1, List.size_toArray, List.length_append, List.length_append, List.length_take, List.length_drop, hcl, hcurl]; omega
  · have h1 : (O.take (i + 1) ++ (O.drop i).take (n - i)).length = n + 1 := by rw [List.length_append, ← hA, hAl, List.length_take, hn]; omega
    rw [h1, R.cells_append, ← hA]
    have h2 : cur.toList.take ((i + 1) * R.sz) = R.cells (O.take (i + 1)) := by
      rw [← cells_take (i + 1) hok (by omega), ← ht, List.take_take, Nat.min_eq_left (by omega)]
    have h3 : (cur.toList.take ((i + 1) * R.sz)).length = (i + 1) * R.sz := by rw [List.length_take, hcurl]; omega
    rw [hcur1]
    simp only []
    rw [h2] at h3 ⊢
    rw [List.take_append_of_le_length (by rw [List.length_append, h3, hcl]; omega), List.take_of_length_le (by rw [List.length_append, h3, hcl]; omega)]
theorem copy_none {α : Type} {R : Rec α} {P : Program} {t e : TypeId} {bytes : Nat} (hT : R.Ty P t e bytes) (w : World) (d a : Option Addr) (dCap sLen sCap : Nat) (ty : TypeId) :
    (Builtin.copy_ #[t, t] ty #[.slice d 0 dCap, .slice a sLen sCap]).run P w = .ok (goInt 0) w := by
  obtain ⟨ii, z, hqi, _, hz1, _, _⟩ := hT.info
  have hl : ∀ (x : Addr), (loadCells x 0).run P w = .ok #[] w := fun x => by simpa using run_loadCells_list (P := P) w x [] (by simp)
  cases d <;> cases a <;> simp [Builtin.copy_, run_underlying hT.u, Builtin.lenOf, Builtin.firstCells, sizeOf, typeInfo, hqi, storeCells, hl]
theorem wpList_copyR {P : Program} {w : World} {ops : Array Oper} {rest : List Oper} {o : Oper} {a : Act} {Q : Exit → Act → World → Prop} (hgd : o.guard = none) (d s : Operand) (t t' : TypeId)
    (ho : o.op = .call { callee := .builtin .copy, args := #[d, s], argTypes := #[t, t'] }) (v u : Value) (hd : a.eval d = v) (hs : a.eval s = u) {v' : Value} {w' : World}
    (hr : (Builtin.copy_ #[t, t'] o.type #[v, u]).run P w = .ok v' w') (h : wpList P ops Q rest (a.put o.dst v') w') : wpList P ops Q (o :: rest) a w := by
  refine wpList_plain hgd fun _ hK => ?_
  unfold Oper.wp execOp
  simp only [ho, resolve, invoke, builtin, Sem.run_bind, Sem.run_pure, Result.andThen_ok, List.map_toArray, List.map_cons, List.map_nil, hd, hs, hr]
  exact hK _ _ h
/-- A record is stored in a row. -/
theorem wpList_put {α : Type} {R : Rec α} {P : Program} {e : TypeId} {w : World} {ops : Array Oper} {rest : List Oper} {o : Oper} {a : Act} {Q : Exit → Act → World → Prop} (ht : (P.info? e).map (·.size) = some R.sz) (hgd : o.guard = none) (x y : Operand) (ho : o.op = .store e x y)
    (base g l cap k : Nat) (O : List α) (r : α) (hr : R.ok r) (hk : k < O.length) (hrow : R.row e base O (.slice (some ⟨g, 0, none⟩) l cap) w)
    (hx : a.eval x = .pointer (some ⟨g, k * R.sz, none⟩)) (hy : a.eval y = .agg (R.enc r).toArray)
    (h : ∀ w', R.row e base (O.set k r) (.slice (some ⟨g, 0, none⟩) l cap) w' → w.grownBy w' (some g) → wpList P ops Q rest (a.put o.dst undef) w') : wpList P ops Q (o :: rest) a w := by
  have hsz : (R.enc r).toArray.size = R.sz := by simp [R.len r hr]
  have hrun := run_storeVar_off (P := P) w ⟨g, k * R.sz, none⟩ e (R.enc r).toArray (by rw [hsz]; exact hrow.fitsW hk) (by rw [ht, hsz]) (by rw [Array.all_eq_true_iff_forall_mem]; intro u hu; exact R.one r hr u (by simpa using hu))
  have hp := hrow.put hr hk
  refine wpList_plain hgd fun _ hK => ?_
  unfold Oper.wp execOp
  simp only [ho, hx, hy, Instr.storeAt, Instr.sureAddr, Sem.run_bind, Sem.run_pure, Result.andThen_ok, hrun]
  refine hK _ _ (h _ hp.1 ?_)
  obtain ⟨_, _, ⟨he, _⟩ | ⟨g', cap', cur, he, hg, hh, _⟩⟩ := hrow
  · cases he
  · cases he
    unfold putC
    simp only [hh]
    exact ⟨rfl, rfl, rfl, by simp, fun j _ hj => setRow_other w g j _ (fun e => hj (by rw [e]))⟩
end Go.Proofs.Ytcgioboiebanpaa
