/- Literals of the reference's nodes; what its place tells. -/
import Derived.Test.YtmmmimkikakalaaMj
import Derived.Test.YtmmmimkikakalaaHd
namespace Go.Proofs.Ytmmmimkikakalaa
open Go.RowKit Go.WideShapes Go.ChangeShapes Go.ChangeMaps Go.Deep
set_option linter.unusedVariables false

theorem fill51 (K : List Value) (hK : K.length = 32) (a vp vr : Value) (ha : a.cells = K.toArray) (hp : vp.cells = #[vp]) (hr : vr.cells = #[vr]) (pl : Nat → Option (Nat × Nat)) (h0 : pl 0 = some (0, 32)) (h1 : pl 1 = some (32, 1)) (h2 : pl 2 = some (33, 1)) (cs : List Value) (hc : cs.length = 34) :
    Instr.fill pl cs.toArray [(0, a), (1, vp), (2, vr)] = some (K ++ [vp, vr]).toArray := by
  obtain ⟨D, x, y, rfl, hD⟩ : ∃ D x y, cs = D ++ [x, y] ∧ D.length = 32 := by
    refine ⟨cs.take 32, cs[32]'(by omega), cs[33]'(by omega), ?_, by rw [List.length_take]; omega⟩
    apply List.ext_getElem?
    intro i
    by_cases hi : i < 32
    · rw [List.getElem?_append_left (by rw [List.length_take]; omega), List.getElem?_take_of_lt hi]
    · rw [List.getElem?_append_right (by rw [List.length_take]; omega)]
      have h9 : (cs.take 32).length = 32 := by rw [List.length_take]; omega
      rw [h9]
      match i, hi with
      | 32, _ => simp [hc]
      | 33, _ => simp [hc]
      | i + 34, _ => rw [List.getElem?_eq_none (by omega)]; simp
  rw [fill_one (off := 0) (sz := 32) (c := K) h0 ha hK (by simp; omega)]
  have e1 : (D ++ [x, y]).take 0 ++ K ++ (D ++ [x, y]).drop (0 + 32) = K ++ [x, y] := by
    rw [List.take_zero, List.nil_append, Nat.zero_add, List.drop_append, List.drop_of_length_le (by omega), hD]; rfl
  rw [e1, fill_one (off := 32) (sz := 1) (c := [vp]) h1 (by rw [hp]) rfl (by simp; omega)]
  have e2 : (K ++ [x, y]).take 32 ++ [vp] ++ (K ++ [x, y]).drop (32 + 1) = K ++ [vp, y] := by
    rw [List.take_append, List.take_of_length_le (by omega), List.drop_append, List.drop_of_length_le (by omega), hK]; simp
  rw [e2, fill_one (off := 33) (sz := 1) (c := [vr]) h2 (by rw [hr]) rfl (by simp; omega)]
  have e3 : (K ++ [vp, y]).take 33 ++ [vr] ++ (K ++ [vp, y]).drop (33 + 1) = K ++ [vp, vr] := by
    rw [List.take_append, List.take_of_length_le (by omega), List.drop_append, List.drop_of_length_le (by omega), hK]; simp
  rw [e3]
  rfl
theorem built51 (parts : List (Nat × Value)) : Try.prog.built 51 parts = Instr.fill (fun i => ([(0, 32), (32, 1), (33, 1)] : List (Nat × Nat)).toArray[i]?) (rnB (List.replicate 32 0, (none, 0, 0), 0)) parts := by kernel_rfl
@[go_sem ↓] theorem bld51 (f : Operand → Value) (a b c : Operand) (dst : Option Tmp) (ty' : TypeId) (pos : String) (after : Array Edge) (guard : Option (Nat × Bool)) (w : World) (ha : idOk (f a)) (hb : isSl (f b)) (hc : isI64 (f c)) :
    (execOp f ⟨dst, .build 51 #[(0, a), (1, b), (2, c)], ty', pos, after, guard⟩).run Try.prog w = .ok (.value (.agg (aggOf (f a) ++ #[f b, f c]))) w := by
  obtain ⟨x, hx, hl⟩ := ha
  have hb' : (f b).cells = #[f b] := by obtain ⟨a, n, c, h⟩ := hb; rw [h]; rfl
  have hc' : (f c).cells = #[f c] := by obtain ⟨s, h⟩ := hc; rw [h]; rfl
  have hs : (idB x).toList.length = 32 := by rw [Array.length_toList, idB_size, hl]
  have hbt : Try.prog.built 51 ((#[(0, a), (1, b), (2, c)] : Array (Nat × Operand)).map fun (i, x) => (i, f x)).toList = some (aggOf (f a) ++ #[f b, f c]) := by
    rw [built51]
    have h0 : rnB (List.replicate 32 0, (none, 0, 0), 0) = (rnB (List.replicate 32 0, (none, 0, 0), 0)).toList.toArray := by simp
    rw [h0]
    have := fill51 (idB x).toList hs (f a) (f b) (f c) (by rw [hx]; simp [Value.cells]) hb' hc' (fun i => ([(0, 32), (32, 1), (33, 1)] : List (Nat × Nat)).toArray[i]?) rfl rfl rfl (rnB (List.replicate 32 0, (none, 0, 0), 0)).toList (by rw [Array.length_toList]; exact rnB_size _ (by simp))
    refine Eq.trans ?_ (this.trans ?_)
    · simp
    · rw [hx, aggOf_agg]
      congr 1
      apply Array.ext'
      simp
  unfold execOp
  simp only [Sem.run_bind, run_build w 51 _ _ hbt, Result.andThen_ok]
  rfl
def rnOk : Value → Prop := fun v => ∃ x : RN, v = .agg (rnB x) ∧ x.1.length = 32
@[go_sem ↓] theorem build27 (f : Operand → Value) (y : Operand) (dst : Option Tmp) (ty' : TypeId) (pos : String) (after : Array Edge) (guard : Option (Nat × Bool)) (w : World) (hy : rnOk (f y)) :
    (execOp f ⟨dst, .buildSlice 27 1 #[(0, y)], ty', pos, after, guard⟩).run Try.prog w = .ok (.value (.slice (some ⟨w.heap.size, 0, none⟩) 1 1)) (w.alloc (.cells (aggOf (f y)) 51)) := by
  obtain ⟨x, hx, hl⟩ := hy
  have := Rec.run_lit rn27 w 1 [(f y, x)] (#[(0, y)].map fun (i, x) => (i, f x)) (by simp [Rec.parts]) rfl (by decide) (by decide) (by
    intro z hz; simp at hz; subst hz; exact ⟨hl, by rw [hx]; simp [rnB, Value.cells]⟩)
  unfold execOp
  simp only [Sem.run_bind, this, Result.andThen_ok, hx, aggOf_agg]
  simp [Rec.cells, rnB]
/-- place tells whether there is such a node. -/
theorem placeI_is (G : List GN) (x : List UInt8) : decide (0 ≤ placeI G x) = isNode G x := by
  unfold placeI isNode
  cases h : G.findIdx? (fun g => g.1 == x) with
  | none =>
    rw [List.findIdx?_eq_none_iff] at h
    have : ¬ x ∈ G.map (·.1) := by
      intro hm
      obtain ⟨g, hg, rfl⟩ := List.mem_map.1 hm
      have := h g hg
      simp at this
    rw [decide_eq_false this]
    simp
  | some i =>
    rw [List.findIdx?_eq_some_iff_getElem] at h
    obtain ⟨hi, h1, _⟩ := h
    have : x ∈ G.map (·.1) := List.mem_map.2 ⟨G[i], List.getElem_mem hi, by simpa using h1⟩
    rw [decide_eq_true this]
    simp
theorem placeI_lt (G : List GN) (x : List UInt8) : decide (placeI G x < 0) = !isNode G x := by
  rw [← placeI_is, ← decide_not]
  congr 1
  apply propext
  omega
end Go.Proofs.Ytmmmimkikakalaa

namespace Go.Proofs.Ytmmmimkikakalaa
open Go.RowKit Go.WideShapes Go.ChangeShapes Go.ChangeMaps Go.Deep
set_option linter.unusedVariables false

/-- The node that Add writes. -/
def raK (base : Nat) (x : List UInt8) (ps : List (List UInt8)) (st : Int) (y : RN) (w : World) : Prop := y.1 = x ∧ y.2.2 = st ∧ y.2.1.2.1 = ps.length ∧ rowI base ps (.slice y.2.1.1 y.2.1.2.1 y.2.1.2.2) w
def raE (base : Nat) : Value → World → Prop := fun v w => ∃ g, base ≤ g ∧ v = .slice (some ⟨g, 0, none⟩) 0 0 ∧ w.heap[g]? = some (.cells #[] 51 (0, 0))
def raN (base : Nat) (x : List UInt8) (ps : List (List UInt8)) (st : Int) : Value → World → Prop := fun v w => ∃ y, v = .agg (rnB y) ∧ raK base x ps st y w
def raS (base : Nat) (x : List UInt8) (ps : List (List UInt8)) (st : Int) : Value → World → Prop := fun v w => ∃ g y, base ≤ g ∧ v = .slice (some ⟨g, 0, none⟩) 1 1 ∧ w.heap[g]? = some (.cells (rnB y) 51 (0, 0)) ∧ raK base x ps st y w
def raW (base : Nat) (x : List UInt8) (ps : List (List UInt8)) (st : Int) (rs : List RN) : Value → World → Prop := fun v w => ∃ y, rnR.row 51 base (rs ++ [y]) v w ∧ raK base x ps st y w
/-- What the second append keeps. -/
def raR (base : Nat) (x : List UInt8) (ps : List (List UInt8)) (st : Int) (rs : List RN) (j : Nat) (w w' : World) : Prop :=
  if j = 9 then Below base w w' ∧ (∀ v, rnR.row 51 base rs v w → rnR.row 51 base rs v w') ∧ (∀ v, rowI base ps v w → rowI base ps v w') ∧ (∀ g : Nat, w.heap[g]? = some (.cells #[] 51 (0, 0)) → w'.heap[g]? = some (.cells #[] 51 (0, 0))) ∧
    ∃ x', raK base x ps st x' w' ∧ ∀ (g : Nat) (y : RN), y.1.length = 32 → w.heap[g]? = some (.cells (rnB y) 51 (0, 0)) → w'.heap[g]? = some (.cells (rnB y) 51 (0, 0)) ∨ w'.heap[g]? = some (.cells (rnB x') 51 (0, 0))
  else Below w.heap.size w w'
theorem raR_b {base : Nat} {x : List UInt8} {ps : List (List UInt8)} {st : Int} {rs : List RN} {j : Nat} {w w' : World} (hj : j ≠ 9) (h : Below w.heap.size w w') : raR base x ps st rs j w w' := by unfold raR; rw [if_neg hj]; exact h
theorem raR_below {base : Nat} {x : List UInt8} {ps : List (List UInt8)} {st : Int} {rs : List RN} {j : Nat} {W w w' : World} (hB : W.heap.size ≤ base) (hg : Below W.heap.size W w) (hr : raR base x ps st rs j w w') : Below W.heap.size W w' := by
  unfold raR at hr
  split at hr
  · exact hg.trans (hr.1.mono hB)
  · exact hg.trans (hr.mono hg.size)
theorem raR_row {base : Nat} {x : List UInt8} {ps : List (List UInt8)} {st : Int} {rs : List RN} {j : Nat} {v : Value} {w w' : World} (hr : raR base x ps st rs j w w') (h : rnR.row 51 base rs v w) : rnR.row 51 base rs v w' := by
  unfold raR at hr
  split at hr
  · exact hr.2.1 v h
  · exact h.below hr
theorem raR_rowI {base : Nat} {x : List UInt8} {ps : List (List UInt8)} {st : Int} {rs : List RN} {j : Nat} {v : Value} {w w' : World} (hr : raR base x ps st rs j w w') (h : rowI base ps v w) : rowI base ps v w' := by
  unfold raR at hr
  split at hr
  · exact hr.2.2.1 v h
  · exact ownsRow_below h hr
theorem raR_K {base : Nat} {x : List UInt8} {ps : List (List UInt8)} {st : Int} {rs : List RN} {j : Nat} {y : RN} {w w' : World} (hr : raR base x ps st rs j w w') (h : raK base x ps st y w) : raK base x ps st y w' := ⟨h.1, h.2.1, h.2.2.1, raR_rowI hr h.2.2.2⟩
theorem raR_E {base : Nat} {x : List UInt8} {ps : List (List UInt8)} {st : Int} {rs : List RN} {j : Nat} {v : Value} {w w' : World} (hr : raR base x ps st rs j w w') (h : raE base v w) : raE base v w' := by
  obtain ⟨g, h1, h2, h3⟩ := h
  refine ⟨g, h1, h2, ?_⟩
  unfold raR at hr
  split at hr
  · exact hr.2.2.2.1 g h3
  · exact (hr.block g (Array.getElem?_eq_some_iff.1 h3).1).trans h3
theorem raR_N {base : Nat} {x : List UInt8} {ps : List (List UInt8)} {st : Int} {rs : List RN} {j : Nat} {v : Value} {w w' : World} (hr : raR base x ps st rs j w w') (h : raN base x ps st v w) : raN base x ps st v w' :=
  let ⟨y, h1, h2⟩ := h; ⟨y, h1, raR_K hr h2⟩
theorem raR_S {base : Nat} {x : List UInt8} {ps : List (List UInt8)} {st : Int} {rs : List RN} {j : Nat} {v : Value} {w w' : World} (hx : x.length = 32) (hr : raR base x ps st rs j w w') (h : raS base x ps st v w) : raS base x ps st v w' := by
  obtain ⟨g, y, h1, h2, h3, h4⟩ := h
  have h5 := raR_K hr h4
  unfold raR at hr
  split at hr
  · obtain ⟨x', k1, k2⟩ := hr.2.2.2.2
    rcases k2 g y (by rw [h4.1]; exact hx) h3 with h | h
    · exact ⟨g, y, h1, h2, h, h5⟩
    · exact ⟨g, x', h1, h2, h, k1⟩
  · exact ⟨g, y, h1, h2, (hr.block g (Array.getElem?_eq_some_iff.1 h3).1).trans h3, h5⟩
theorem raR_app {base : Nat} {x : List UInt8} {ps : List (List UInt8)} {st : Int} {rs : List RN} {x' : RN} (hx : x.length = 32) {v0 : Value} {w w' : World} (hb : Below base w w') (hK : raK base x ps st x' w) (hk : AppKeeps rnR.sz 51 v0 rs.length (rnR.cells [x']) w w') : raR base x ps st rs 9 w w' := by
  have hx' : x'.1.length = 32 := by rw [hK.1]; exact hx
  have hI : ∀ v, rowI base ps v w → rowI base ps v w' := by
    intro v h
    rcases hk with hbb | ⟨g1, cap, cur, rfl, hh, _, _, _, hoth⟩
    · exact ownsRow_below h hbb
    · obtain ⟨hl, h0 | ⟨g2, cap2, cur2, rfl, hg2, hb2, hc2, hm2, hs2, ht2⟩⟩ := h
      · exact ⟨hl, .inl h0⟩
      · have hne : g2 ≠ g1 := fun he => by
          subst he
          rw [hb2] at hh
          cases hh
        exact ⟨hl, .inr ⟨g2, cap2, cur2, rfl, hg2, (hoth g2 hne).trans hb2, hc2, hm2, hs2, ht2⟩⟩
  unfold raR
  rw [if_pos rfl]
  refine ⟨hb, fun v h => row_front hk h, hI, fun g hg => ?_, x', ⟨hK.1, hK.2.1, hK.2.2.1, hI _ hK.2.2.2⟩, fun g y hy hg => ?_⟩
  · rcases hk with hbb | ⟨g1, cap, cur, rfl, hh, hcs, hfit, _, hoth⟩
    · exact (hbb.block g (Array.getElem?_eq_some_iff.1 hg).1).trans hg
    · by_cases he : g = g1
      · subst he
        rw [hg] at hh
        cases hh
        have h9 : (rnR.cells [x']).length = 34 := by have := rnR.cells_length [x'] (fun z hz => by rw [List.mem_singleton] at hz; subst hz; exact hx'); simpa [rnR] using this
        have h8 : (#[] : Array Value).size = 0 := rfl
        rw [h9, h8] at hfit
        omega
      · exact (hoth g he).trans hg
  · rcases hk with hbb | ⟨g1, cap, cur, rfl, hh, hcs, hfit, hg', hoth⟩
    · exact .inl ((hbb.block g (Array.getElem?_eq_some_iff.1 hg).1).trans hg)
    · by_cases he : g = g1
      · subst he
        right
        rw [hg] at hh
        cases hh
        have hl : (rnB y).size = (rnR.cells [x']).length := by
          rw [rnB_size y hy]
          have := rnR.cells_length [x'] (fun z hz => by rw [List.mem_singleton] at hz; subst hz; exact hx'); simpa [rnR] using this.symm
        have hn : rs.length * rnR.sz = 0 := by omega
        have hl' : (rnB y).toList.length = (rnR.cells [x']).length := by rw [Array.length_toList, hl]
        rw [hg', hn, List.take_zero, List.nil_append, Nat.zero_add, List.drop_of_length_le (by omega), List.append_nil]
        simp [Rec.cells, rnB]
      · exact .inl ((hoth g he).trans hg)
end Go.Proofs.Ytmmmimkikakalaa
