/- The reference's graphs in memory; place. -/
import Derived.Test.YtmmmimkikakalaaMh
import Derived.Test.YtmmmimkikakalaaRec
namespace Go.Proofs.Ytmmmimkikakalaa
open Go.RowKit Go.Maps
set_option linter.unusedVariables false

/-- A reference's node as its cells hold it: id, the parents' slice, stamp. -/
abbrev RN := List UInt8 × (Option Addr × Nat × Nat) × Int
def rnR : Rec RN where
  enc x := (idB x.1).toList ++ [.slice x.2.1.1 x.2.1.2.1 x.2.1.2.2, .int .i64 x.2.2]
  sz := 34
  ok x := x.1.length = 32
  pos := by decide
  len x h := by rw [List.length_append, Array.length_toList, idB_size, h]; rfl
  one x h u hu := by
    rcases List.mem_append.1 hu with hu | hu
    · exact Array.all_eq_true_iff_forall_mem.1 (idB_one x.1) u (by simpa using hu)
    · simp at hu; rcases hu with rfl | rfl <;> rfl
/-- What stands at a node's cells. -/
structure RnAt (w : World) (b o : Nat) (x : RN) : Prop where
  f : fits w ⟨b, o, none⟩ 34
  kf : fits w ⟨b, o, none⟩ 32
  ka : aggAt w ⟨b, o, none⟩ 32 = idB x.1
  p : w.cell? ⟨b, o + 32, none⟩ = some (.slice x.2.1.1 x.2.1.2.1 x.2.1.2.2)
  s : w.cell? ⟨b, o + 33, none⟩ = some (.int .i64 x.2.2)
theorem fits_part {w : World} {b o n m : Nat} (h : fits w ⟨b, o, none⟩ n) (hm : m ≤ n) : fits w ⟨b, o, none⟩ m := by
  obtain ⟨h1, c, e, f, h2, h3⟩ := h
  exact ⟨h1, c, e, f, h2, by simp only at h3 ⊢; omega⟩
theorem agg_part {w : World} {b o n m : Nat} (h : fits w ⟨b, o, none⟩ n) (hm : m ≤ n) : aggAt w ⟨b, o, none⟩ m = (aggAt w ⟨b, o, none⟩ n).extract 0 m := by
  obtain ⟨h1, c, e, f, h2, h3⟩ := h
  unfold aggAt
  simp only at h2 h3
  simp only [h2]
  apply Array.ext'
  simp only [Array.toList_extract, List.extract_eq_take_drop, Nat.sub_zero, List.drop_zero, List.take_take]
  rw [show o + m - o = m by omega, show o + n - o = n by omega, Nat.min_eq_left hm]
theorem RnAt.of {w : World} {b o : Nat} {x : RN} (h32 : x.1.length = 32) (h : rnR.At w ⟨b, o, none⟩ x) : RnAt w b o x := by
  obtain ⟨h1, h2⟩ := h
  have h1 : fits w ⟨b, o, none⟩ 34 := h1
  have h2 : aggAt w ⟨b, o, none⟩ 34 = ((idB x.1).toList ++ [Value.slice x.2.1.1 x.2.1.2.1 x.2.1.2.2, Value.int .i64 x.2.2]).toArray := h2
  have hs : (idB x.1).size = 32 := by rw [idB_size, h32]
  have hl : (idB x.1).toList.length = 32 := by rw [Array.length_toList, hs]
  refine ⟨h1, fits_part h1 (by decide), ?_, ?_, ?_⟩
  · rw [agg_part h1 (by decide), h2]
    apply Array.ext'
    simp [List.extract_eq_take_drop, hl]
  · have := aggAt_get (j := 32) h1 (by decide)
    rw [h2] at this
    rw [this]; simp [hs]
  · have := aggAt_get (j := 33) h1 (by decide)
    rw [h2] at this
    rw [this]; simp [hs]
theorem RnAt.below {w w' : World} {b o : Nat} {x : RN} (h : RnAt w b o x) (hb : Below w.heap.size w w') : RnAt w' b o x := by
  have hl : b < w.heap.size := h.f.lt
  have e := hb.block b hl
  exact ⟨fits_of_block (a := ⟨b, o, none⟩) e h.f, fits_of_block (a := ⟨b, o, none⟩) e h.kf, (aggAt_of_block (a := ⟨b, o, none⟩) e).trans h.ka, (hb.cell (p := ⟨b, o + 32, none⟩) hl).trans h.p, (hb.cell (p := ⟨b, o + 33, none⟩) hl).trans h.s⟩
/-- The graph, as the reference holds it. -/
def RefG (w : World) (p : Option Addr) (G : List GN) : Prop :=
  ∃ rs : List RN, rs.length = G.length ∧ rnR.In w p rs ∧ ∀ i (h : i < G.length), ∃ r, rs[i]? = some r ∧ r.1 = G[i].1 ∧ r.2.2 = G[i].2.2 ∧ r.2.1.2.1 = G[i].2.1.length ∧ SlI w (.slice r.2.1.1 r.2.1.2.1 r.2.1.2.2) G[i].2.1
theorem RefG.below {w w' : World} {p : Option Addr} {G : List GN} (h : RefG w p G) (hb : Below w.heap.size w w') : RefG w' p G := by
  obtain ⟨rs, h1, h2, h3⟩ := h
  refine ⟨rs, h1, h2.below hb, fun i hi => ?_⟩
  obtain ⟨r, a1, a2, a3, a4, a5⟩ := h3 i hi
  exact ⟨r, a1, a2, a3, a4, a5.below hb⟩
/-- One node of it. -/
theorem RefG.at {w : World} {p : Option Addr} {G : List GN} (h : RefG w p G) {i : Nat} (hi : i < G.length) :
    ∃ b off a c x ps st, p = some ⟨b, off, none⟩ ∧ b < w.heap.size ∧ G[i]? = some (x, ps, st) ∧ x.length = 32 ∧ RnAt w b (off + i * 34) (x, (a, ps.length, c), st) ∧ SlI w (.slice a ps.length c) ps := by
  obtain ⟨rs, h1, h2, h3⟩ := h
  obtain ⟨⟨rx, ⟨ra, rn, rc⟩, rst⟩, a1, a2, a3, a4, a5⟩ := h3 i hi
  have hg : G[i]? = some G[i] := List.getElem?_eq_getElem hi
  generalize G[i] = g at *
  obtain ⟨gx, gp, gs⟩ := g
  simp only at a2 a3 a4 a5
  subst a2 a3 a4
  have h32 := h2.1 _ (List.mem_of_getElem? a1)
  rcases h2.2 with h | ⟨b, off, rfl, hlt, hc⟩
  · rw [h] at a1; simp at a1
  · exact ⟨b, off, ra, rc, rx, gp, rst, rfl, hlt, hg, h32, RnAt.of h32 (hc i _ a1), a5⟩
/-- Where a node is. -/
def placeI (G : List GN) (x : List UInt8) : Int := match G.findIdx? fun g => g.1 == x with | some i => (i : Int) | none => -1

set_option maxHeartbeats 2000000 in
set_option maxRecDepth 100000 in
theorem rplace_any (p : Option Addr) (c : Nat) (G : List GN) (x : List UInt8) (hx : x.length = 32) (w : World) (hlen : G.length ≤ 1000) (hG : RefG w p G) :
    Calls Try.prog 37 #[.slice p G.length c, .agg (idB x)] w fun e w' => e = .returned (.int .i64 (placeI G x)) ∧ Below w.heap.size w w' := by
  obtain ⟨W, hW⟩ : ∃ W, W = w.alloc (.cells (idB x) 24) := ⟨_, rfl⟩
  have hb0 := (Below.refl w.heap.size w).alloc (Nat.le_refl _) (.cells (idB x) 24)
  obtain ⟨blk, hblk⟩ : ∃ b, b = w.heap.size := ⟨_, rfl⟩
  have f1 := fits_new w (idB x) 24 32 (by rw [idB_size, hx])
  have f2 := aggAt_new w (idB x) 24 32 (by rw [idB_size, hx])
  rw [← hW, ← hblk] at f1 f2
  rw [← hW] at hb0
  have HX := Lib.hid (hG.below hb0)
  have HB0 := Lib.hid hb0
  have HF := Lib.hid (And.intro f1 f2)
  have HXL := Lib.hid hx
  clear hG hb0 f1 f2
  go_enter Try.func37, Try.ntmps37
  go_upto_region 1 with fail
  rw [← hW]
  clear hW
  rw [← hblk]
  clear hblk
  go_wp2_with fail
  go_loopg [5] G.length (fun g v wr => ∃ k : Nat, g + k = G.length ∧ v = .int .i64 k ∧ (∀ j g, G[j]? = some g → j < k → g.1 ≠ x) ∧ Below W.heap.size W wr)
  case atStart => exact ⟨0, by omega, rfl, fun j _ _ hj => by omega, Below.refl _ _⟩
  case round =>
    obtain ⟨k, hg, rfl, hall, hbw⟩ := hrel
    have HG := Lib.hid hg
    have HA := Lib.hid hall
    have HB := Lib.hid hbw
    clear hg hall hbw
    by_cases hk : k < G.length
    · have HK := Lib.hid hk
      obtain ⟨b, off, a, c', y, ps, st, rfl, hlt, hget, h32, hat, _⟩ := (HX.out.below HB.out).at hk
      have HGT := Lib.hid hget
      clear hget
      have i1 : (k : Int) < G.length := by omega
      have e1 := hat.kf
      have e2 := hat.ka
      have e3 := fits_below HB.out HF.out.1
      have e4 := (agg_below HB.out HF.out.1).trans HF.out.2
      have q9 : b < wr.heap.size := hlt
      have q8 := e3.lt
      simp only at e2 q8
      by_cases hxy : y = x
      · have HP := Lib.hid (show placeI G x = (k : Int) from by
          unfold placeI
          have : G.findIdx? (fun g => g.1 == x) = some k := by
            rw [List.findIdx?_eq_some_iff_getElem]
            obtain ⟨hk2, hg2⟩ := List.getElem?_eq_some_iff.1 HGT.out
            refine ⟨hk2, by rw [hg2]; exact beq_iff_eq.2 hxy, fun j hj => ?_⟩
            have h3 := HA.out j _ (List.getElem?_eq_getElem (by omega)) hj
            simpa using h3
          rw [this])
        rw [hxy] at e2
        have i2 : (x == x) = true := beq_self_eq_true _
        clear hat hxy h32
        go_wp2_with fail
        refine wp_region_over (by kernel_rfl) (by kernel_rfl) ?_
        repeat (go_big_quiet_step (fail))
        refine wpQuiet_nil ?_
        rintro _ ⟨z0, rfl⟩
        have HB1 := Lib.hid (HB0.out.trans ((HB.out.trans ((ov_below wr z0).mono HB.out.size)).mono HB0.out.size))
        clear e1 e2 e3 e4 i2
        go_wp2
        go_ret
        exact ⟨ret_i HP.out.symm, HB1.out⟩
      · have i2 : (y == x) = false := beq_eq_false_iff_ne.2 hxy
        have HN := Lib.hid hxy
        clear hat hxy
        go_wp2_with fail
        refine wp_region_over (by kernel_rfl) (by kernel_rfl) ?_
        repeat (go_big_quiet_step (fail))
        refine wpQuiet_nil ?_
        rintro _ ⟨z0, rfl⟩
        have HB1 := Lib.hid (HB.out.trans ((ov_below wr z0).mono HB.out.size))
        clear e1 e2 e3 e4 i2
        go_wp2
        go_roundg (gk - 1)
        case measure => have := HG.out; have := HK.out; omega
        case rel => exact ⟨k + 1, by have := HG.out; have := HK.out; omega, by go_num, fun j g h hj => by rcases Nat.lt_succ_iff_lt_or_eq.1 hj with h' | rfl; exact HA.out j g h h'; rw [HGT.out] at h; cases h; exact HN.out, HB1.out⟩
    · have HP := Lib.hid (show placeI G x = -1 from by
        unfold placeI
        have : G.findIdx? (fun g => g.1 == x) = none := by
          rw [List.findIdx?_eq_none_iff]
          intro g hg
          obtain ⟨j, hj, rfl⟩ := List.getElem_of_mem hg
          have := HA.out j _ (List.getElem?_eq_getElem hj) (by have := HG.out; omega)
          simp [this]
        rw [this])
      go_wp2
      go_ret
      exact ⟨ret_i HP.out.symm, HB0.out.trans (HB.out.mono HB0.out.size)⟩
end Go.Proofs.Ytmmmimkikakalaa

namespace Go.Proofs.Ytmmmimkikakalaa
open Go.RowKit Go.WideShapes Go.ChangeShapes Go.ChangeMaps Go.Deep
set_option linter.unusedVariables false

/-- What an append does to the blocks: all are kept, or it writes behind the row in its own block. -/
def AppKeeps (size : Nat) (e : TypeId) (v : Value) (n : Nat) (news : List Value) (w w' : World) : Prop :=
  Below w.heap.size w w' ∨ ∃ g cap cur, v = .slice (some ⟨g, 0, none⟩) n cap ∧ w.heap[g]? = some (.cells cur e (0, 0)) ∧ cur.size = cap * size ∧ n * size + news.length ≤ cur.size ∧
    w'.heap[g]? = some (.cells (cur.toList.take (n * size) ++ news ++ cur.toList.drop (n * size + news.length)).toArray e (0, 0)) ∧ ∀ k, k ≠ g → w'.heap[k]? = w.heap[k]?
theorem append_where {P : Program} (w : World) (base : Nat) (t ty e : TypeId) (i : TypeInfo) (z : Value) (size bytes : Nat) (ht : P.underlying t = some (.slice e)) (hi : P.info? e = some i) (hz : i.zero = some z)
    (hsize : i.size = size) (hby : i.bytes = bytes)
    (v : Value) (n : Nat) (xs : List Value) (hown : w.ownsRow base e size v n xs)
    (a : Addr) (m c : Nat) (news : List Value) (hl : news.length = m * size) (hnews : ∀ j u, news[j]? = some u → w.cell? (a.add j) = some u) (h1 : ∀ u ∈ news, u.oneCell' = true)
    (h63 : n + m ≤ maxLen) (hbytes : (n + m) * bytes ≤ 140737488355328) (hm : 0 < m) {v' : Value} {w' : World}
    (hrun : (Builtin.append_ #[t, t] ty #[v, .slice (some a) m c]).run P w = .ok v' w') : AppKeeps size e v n news w w' := by
  subst hsize
  subst hby
  have hsmall : n + m ≤ 9223372036854775807 := by simp only [maxLen] at h63; omega
  have hnew : ∀ o, Below w.heap.size w (w.drew.alloc o) := fun o => ((below_drewN (Below.refl w.heap.size w) 1)).alloc (Nat.le_refl _) _
  rcases hown.2 with ⟨rfl, rfl⟩ | ⟨g', cap, cur, rfl, hbg, hgg, hnc, hcm, hcs, htake⟩
  · have hr := run_append_nil (P := P) w t ty e i z ht hi hz a m c news hl hnews (by omega) (by omega) (by have hb := hbytes; simp only [Nat.zero_add] at hb; omega)
    rw [hr] at hrun
    cases hrun
    exact .inl (hnew _)
  · by_cases hroom : n + m ≤ cap
    · have hfit : n * i.size + news.length ≤ cur.size := by rw [hl, hcs, ← Nat.add_mul]; exact Nat.mul_le_mul_right _ hroom
      have hr := run_append_room (P := P) w t ty e i ht hi g' n cap cur hgg a m c news hl hnews h1 hroom hfit
      rw [hr] at hrun
      cases hrun
      exact .inr ⟨g', cap, cur, rfl, hgg, hcs, hfit, setRow_heap w g' cur _ e _ hgg, fun k hk => setRow_other w g' k _ hk⟩
    · have holds : ∀ j u, xs[j]? = some u → w.cell? ((⟨g', 0, none⟩ : Addr).add j) = some u := hown.cells (g := g') rfl
      have hr := run_append_grow (P := P) w t ty e i z ht hi hz ⟨g', 0, none⟩ n cap xs hown.1 holds a m c news hl hnews (by omega) (by omega) (growslice_fits (by omega) hbytes)
      rw [hr] at hrun
      cases hrun
      exact .inl (hnew _)
/-- append(s, x...), and what it keeps. -/
theorem wpList_appK {α : Type} {R : Rec α} {P : Program} {t e : TypeId} {bytes : Nat} (hT : R.Ty P t e bytes) {w : World} {ops : Array Oper} {rest : List Oper} {o : Oper} {a : Act} {Q : Exit → Act → World → Prop} (hgd : o.guard = none) (s x : Operand)
    (ho : o.op = .call { callee := .builtin .append, args := #[s, x], argTypes := #[t, t] })
    (base : Nat) (v : Value) (O A O' : List α) (hO' : O' = O ++ A) (hs : a.eval s = v) (hown : R.row e base O v w)
    (ad : Addr) (cap : Nat) (hx : a.eval x = .slice (some ad) A.length cap) (hA : R.In w (some ad) A) (hA0 : 0 < A.length) (hlen : O.length + A.length ≤ 100000000) (hbase : base ≤ w.heap.size)
    (h : ∀ v' w', R.row e base O' v' w' → w.grownBy w' v.ownBlock → Below base w w' → AppKeeps R.sz e v O.length (R.cells A) w w' → wpList P ops Q rest (a.put o.dst v') w') : wpList P ops Q (o :: rest) a w := by
  subst hO'
  obtain ⟨i, z, hi, hz0, hz1, hz2, hz3⟩ := hT.info
  have hall : ∀ y ∈ O ++ A, R.ok y := fun y hy => (List.mem_append.1 hy).elim (hown.1 y) (hA.1 y)
  have hc : ∀ j u, (R.cells A)[j]? = some u → w.cell? (ad.add j) = some u := by
    rcases hA.2 with rfl | ⟨b, off, he, _, hc⟩
    · intro j u hj; simp [Rec.cells] at hj
    · cases he
      exact Rec.In.cells hA.1 hc
  have hb : (O.length + A.length) * bytes ≤ 140737488355328 := Nat.le_trans (Nat.mul_le_mul hlen hT.b) (by decide)
  obtain ⟨v', w', hr, h2, h3, h4⟩ := run_append_own (P := P) w base t o.type e i z R.sz bytes hT.u hi hz0 hz1 hz2 hz3 R.pos v O.length (R.cells O) hown.2 ad A.length cap (R.cells A) (R.cells_length A hA.1) hc (R.cells_one A hA.1) (by unfold maxLen; omega) hb hbase
  have hk := append_where (P := P) w base t o.type e i z R.sz bytes hT.u hi hz0 hz1 hz2 v O.length (R.cells O) hown.2 ad A.length cap (R.cells A) (R.cells_length A hA.1) hc (R.cells_one A hA.1) (by unfold maxLen; omega) hb hA0 hr
  refine wpList_plain hgd fun _ hK => ?_
  unfold Oper.wp execOp
  simp only [ho, resolve, invoke, builtin, Sem.run_bind, Sem.run_pure, Result.andThen_ok, List.map_toArray, List.map_cons, List.map_nil, hs, hx, hr]
  refine hK _ _ (h v' w' ⟨hall, by rw [List.length_append, R.cells_append]; exact h2⟩ h3 ((Below.refl _ _).grown h3 hbase (fun k hk => ?_)) hk)
  obtain ⟨_, _, ⟨rfl, _⟩ | ⟨g, cap', cur, rfl, hg, _⟩⟩ := hown
  · cases hk
  · simp only [Value.ownBlock, Option.some.injEq] at hk; omega

/-- A row whose block begins as it did. -/
theorem row_front {α : Type} {R : Rec α} {e : TypeId} {base : Nat} {O : List α} {v0 v : Value} {news : List Value} {w w' : World} (hk : AppKeeps R.sz e v0 O.length news w w') (h : R.row e base O v w) : R.row e base O v w' := by
  rcases hk with hb | ⟨g, cap, cur, rfl, hg, hcs, hfit, hg', hoth⟩
  · exact h.below hb
  · obtain ⟨hok, hl, h0 | ⟨g1, cap1, cur1, rfl, hg1, hb1, hc1, hm1, hs1, ht1⟩⟩ := h
    · exact ⟨hok, hl, .inl h0⟩
    · by_cases he : g1 = g
      · subst he
        rw [hg] at hb1
        cases hb1
        refine ⟨hok, hl, .inr ⟨g1, cap1, _, rfl, hg1, hg', hc1, hm1, ?_, ?_⟩⟩
        · simp only [List.size_toArray, List.length_append, List.length_take, List.length_drop, Array.length_toList]
          omega
        · have hle : O.length * R.sz ≤ (cur.toList.take (O.length * R.sz)).length := by
            have h9 : cur.toList.length = cur.size := Array.length_toList
            rw [List.length_take, h9]; omega
          rw [← ht1, List.append_assoc, List.take_append_of_le_length hle, List.take_take, Nat.min_self]
      · exact ⟨hok, hl, .inr ⟨g1, cap1, cur1, rfl, hg1, (hoth g1 he).trans hb1, hc1, hm1, hs1, ht1⟩⟩
/-- A block of one record, which is what is written. -/
theorem one_front {α : Type} {R : Rec α} {e : TypeId} {n : Nat} {v0 : Value} {x : α} {C : Array Value} (hC : C.toList = R.cells [x]) (hok : R.ok x) {w w' : World} (hk : AppKeeps R.sz e v0 n (R.cells [x]) w w') {g : Nat} (h : w.heap[g]? = some (.cells C e (0, 0))) : w'.heap[g]? = some (.cells C e (0, 0)) := by
  rcases hk with hb | ⟨g1, cap, cur, rfl, hg, hcs, hfit, hg', hoth⟩
  · exact (hb.block g (Array.getElem?_eq_some_iff.1 h).1).trans h
  · by_cases he : g = g1
    · subst he
      rw [h] at hg
      cases hg
      rw [hg']
      have hl : C.size = (R.cells [x]).length := by rw [← hC, Array.length_toList]
      have hn : n * R.sz = 0 := by omega
      have hl' : C.toList.length = (R.cells [x]).length := by rw [hC]
      rw [hn, List.take_zero, List.nil_append, Nat.zero_add, List.drop_of_length_le (by omega), List.append_nil, ← hC]
    · exact (hoth g he).trans h

theorem rn27 : rnR.Ty Try.prog 27 51 64 := ⟨Try.underlying27, by kernel_rfl, by kernel_rfl, by decide⟩
theorem rn_row0 (w : World) (c : Nat) : rnR.row 51 w.heap.size [] (.slice (some ⟨w.heap.size, 0, none⟩) 0 0) (w.alloc (.cells #[] 51)) :=
  ⟨fun x hx => (by cases hx), rfl, .inr ⟨w.heap.size, 0, #[], rfl, Nat.le_refl _, (MapKept.heap_alloc w _).1, Nat.le_refl _, by unfold maxLen; omega, rfl, rfl⟩⟩
/-- A node's cells. -/
def rnB (x : RN) : Array Value := (rnR.enc x).toArray
theorem rnB_size (x : RN) (h : x.1.length = 32) : (rnB x).size = 34 := by rw [rnB, List.size_toArray]; exact rnR.len x h
/-- A literal of one node is a slice of one. -/
theorem rn_one {w : World} {g : Nat} {x : RN} (h32 : x.1.length = 32) (h : w.heap[g]? = some (.cells (rnB x) 51 (0, 0))) : rnR.In w (some ⟨g, 0, none⟩) [x] := by
  refine ⟨fun y hy => by simp at hy; subst hy; exact h32, .inr ⟨g, 0, rfl, (Array.getElem?_eq_some_iff.1 h).1, fun i y hi => ?_⟩⟩
  match i, hi with
  | 0, hi =>
    simp at hi
    subst hi
    have hs := rnB_size x h32
    refine ⟨⟨rfl, rnB x, 51, (0, 0), h, by show _ ≤ _; simp [rnR, hs]⟩, ?_⟩
    unfold aggAt
    simp only [Nat.zero_mul, Nat.add_zero, h]
    have h34 : rnR.sz = 34 := rfl
    rw [h34, Nat.zero_add, ← hs, Array.extract_size]
    rfl
  | i + 1, hi => simp at hi

/-- append([]T{}, x...): all is kept. -/
theorem wpList_app0 {α : Type} {R : Rec α} {P : Program} {t e : TypeId} {bytes : Nat} (hT : R.Ty P t e bytes) {w : World} {ops : Array Oper} {rest : List Oper} {o : Oper} {a : Act} {Q : Exit → Act → World → Prop} (hgd : o.guard = none) (s x : Operand)
    (ho : o.op = .call { callee := .builtin .append, args := #[s, x], argTypes := #[t, t] })
    (base g : Nat) (hbg : base ≤ g) (hs : a.eval s = .slice (some ⟨g, 0, none⟩) 0 0) (hgg : w.heap[g]? = some (.cells #[] e (0, 0))) (A : List α)
    (ad : Option Addr) (cap : Nat) (hx : a.eval x = .slice ad A.length cap) (hA : R.In w ad A) (hn : ad = none → A = [] ∧ cap = 0) (hlen : A.length ≤ 100000000) (hbase : base ≤ w.heap.size)
    (h : ∀ v' w', R.row e base A v' w' → Below w.heap.size w w' → wpList P ops Q rest (a.put o.dst v') w') : wpList P ops Q (o :: rest) a w := by
  have hown : R.row e base [] (.slice (some ⟨g, 0, none⟩) 0 0) w := ⟨fun x hx => (by cases hx), by simp [Rec.cells], .inr ⟨g, 0, #[], rfl, hbg, hgg, Nat.le_refl _, by unfold maxLen; omega, by simp, by simp [Rec.cells]⟩⟩
  obtain ⟨i, z, hi, hz0, hz1, hz2, hz3⟩ := hT.info
  cases ad with
  | none =>
    obtain ⟨rfl, rfl⟩ := hn rfl
    refine wpList_append_own_none hgd s x t ho base e i R.sz hT.u hi _ 0 [] hs hown.2 hx ?_
    exact h _ w hown (Below.refl _ _)
  | some ad =>
    have hc : ∀ j u, (R.cells A)[j]? = some u → w.cell? (ad.add j) = some u := by
      rcases hA.2 with rfl | ⟨b, off, he, _, hc⟩
      · intro j u hj; simp [Rec.cells] at hj
      · cases he
        exact Rec.In.cells hA.1 hc
    have hb : (0 + A.length) * bytes ≤ 140737488355328 := Nat.le_trans (Nat.mul_le_mul (by omega : 0 + A.length ≤ 100000000) hT.b) (by decide)
    obtain ⟨v', w', hr, h2, h3, h4⟩ := run_append_own (P := P) w base t o.type e i z R.sz bytes hT.u hi hz0 hz1 hz2 hz3 R.pos _ 0 [] hown.2 ad A.length cap (R.cells A) (R.cells_length A hA.1) hc (R.cells_one A hA.1) (by unfold maxLen; omega) hb hbase
    have hblk : w'.heap[g]? = w.heap[g]? := by
      rcases Nat.eq_zero_or_pos A.length with hz | hp
      · have hA0 : A = [] := List.eq_nil_of_length_eq_zero hz
        subst hA0
        have hr' := run_append_room (P := P) w t o.type e i hT.u hi g 0 0 #[] hgg ad 0 cap [] (by simp) (by simp) (by simp) (by omega) (by simp)
        have hr2 : (Builtin.append_ #[t, t] o.type #[.slice (some ⟨g, 0, none⟩) 0 0, .slice (some ad) 0 cap]).run P w = .ok v' w' := hr
        rw [hr'] at hr2
        cases hr2
        rw [setRow_heap w g #[] _ e _ hgg, hgg]
        simp
      · have hk := append_where (P := P) w base t o.type e i z R.sz bytes hT.u hi hz0 hz1 hz2 _ 0 [] hown.2 ad A.length cap (R.cells A) (R.cells_length A hA.1) hc (R.cells_one A hA.1) (by unfold maxLen; omega) hb hp hr
        rcases hk with hb' | ⟨g1, cap1, cur, he, hg1, hcs, hfit, _⟩
        · exact hb'.block g (Array.getElem?_eq_some_iff.1 hgg).1
        · exfalso
          have h9 := (R.cells_length A hA.1)
          cases he
          rw [hgg] at hg1
          cases hg1
          have := R.pos
          have h8 : 1 ≤ A.length * R.sz := Nat.mul_pos hp this
          have h7 : 0 * R.sz + (R.cells A).length ≤ (#[] : Array Value).size := hfit
          have h6 : (#[] : Array Value).size = 0 := rfl
          rw [h9, h6] at h7
          omega
    have hbel : Below w.heap.size w w' := ⟨h3.os, h3.tape, h3.output, h3.size, fun k hk => by
      by_cases hkg : k = g
      · subst hkg; exact hblk
      · exact h3.block k hk (fun he => hkg (Option.some.inj he))⟩
    refine wpList_plain hgd fun _ hK => ?_
    unfold Oper.wp execOp
    simp only [ho, resolve, invoke, builtin, Sem.run_bind, Sem.run_pure, Result.andThen_ok, List.map_toArray, List.map_cons, List.map_nil, hs, hx, hr]
    exact hK _ _ (h v' w' ⟨hA.1, by simpa using h2⟩ hbel)
end Go.Proofs.Ytmmmimkikakalaa
