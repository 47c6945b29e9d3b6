/- Plain: what BlockPlaces asks. -/
import Derived.Test.YtcgioboiebanpaaPj
namespace Go.Proofs.Ytcgioboiebanpaa
open Go.RowKit
set_option linter.unusedVariables false

theorem idx_flat {rs : List MR} (h : ∀ r ∈ rs, idxOk r) : ∀ e ∈ flat rs, 0 ≤ e.1.2.2 ∧ e.1.2.2 < 2147483648 := by
  intro e he
  obtain ⟨r, hr, he'⟩ := List.mem_flatMap.1 he
  obtain ⟨j, hj, h1, _⟩ := mem_elemsAt he'
  obtain ⟨q0, q1, q2⟩ := h r hr
  rw [h1]
  simp only
  omega
theorem pieces_live {rs : List MR} (h : ∀ r ∈ rs, idxOk r) (hm : mayF rs) : keysP (piecesM rs) = (liveF rs).map (·.1) ∧ textP (piecesM rs) = docText rs ∧ ∀ p ∈ piecesM rs, pcOk p := by
  have := pieces_hold (flat rs) (idx_flat h)
  rw [pieces_flat h hm, text_flat (mayF_run hm)]
  exact this
theorem keysP1_len (p : PV) : (keysP1 p).length = p.2.1.toNat := by simp [keysP1]
theorem keysP_next {O : List PV} {i : Nat} (hi : i < O.length) : keysP (O.take (i + 1)) = keysP (O.take i) ++ keysP1 O[i] ∧ textP (O.take (i + 1)) = textP (O.take i) ++ O[i].2.2 := by
  rw [List.take_succ_eq_append_getElem hi]
  refine ⟨?_, ?_⟩
  · show (O.take i ++ [O[i]]).flatMap keysP1 = (O.take i).flatMap keysP1 ++ keysP1 O[i]
    rw [List.flatMap_append]; simp only [List.flatMap_cons, List.flatMap_nil, List.append_nil]
  · show (O.take i ++ [O[i]]).flatMap (·.2.2) = (O.take i).flatMap (·.2.2) ++ O[i].2.2
    rw [List.flatMap_append]; simp only [List.flatMap_cons, List.flatMap_nil, List.append_nil]
theorem keysP_split {O : List PV} (i : Nat) : keysP O = keysP (O.take i) ++ keysP (O.drop i) := by
  conv => lhs; rw [← List.take_append_drop i O]
  exact List.flatMap_append
/-- The element at a place within a piece. -/
theorem place_key {rs : List MR} (h : ∀ r ∈ rs, idxOk r) (hm : mayF rs) (hn : ND rs) (hb : liveM rs ≤ 100000) {i k : Nat} (hi : i < (piecesM rs).length) (hk : (k : Int) < (piecesM rs)[i].2.1) :
    atM rs ((keysP ((piecesM rs).take i)).length + k : Nat) = (((piecesM rs)[i].1.1, (piecesM rs)[i].1.2.1, (piecesM rs)[i].1.2.2 + (k : Int)), 0) ∧
    FindM rs ((piecesM rs)[i].1.1, (piecesM rs)[i].1.2.1, (piecesM rs)[i].1.2.2 + (k : Int)) = ((((keysP ((piecesM rs).take i)).length + k : Nat) : Int), true, 0) := by
  obtain ⟨l1, l2, l3⟩ := pieces_live h hm
  have hk' : k < (keysP1 (piecesM rs)[i]).length := by rw [keysP1_len]; omega
  have hget : (keysP (piecesM rs))[(keysP ((piecesM rs).take i)).length + k]? = some ((piecesM rs)[i].1.1, (piecesM rs)[i].1.2.1, (piecesM rs)[i].1.2.2 + (k : Int)) := by
    rw [keysP_split (i + 1), (keysP_next hi).1, List.append_assoc, List.getElem?_append_right (by omega), Nat.add_sub_cancel_left, List.getElem?_append_left hk']
    unfold keysP1
    rw [List.getElem?_map, List.getElem?_range (by rw [keysP1_len] at hk'; exact hk')]
    rfl
  generalize (keysP ((piecesM rs).take i)).length + k = n at *
  generalize ((piecesM rs)[i].1.1, (piecesM rs)[i].1.2.1, (piecesM rs)[i].1.2.2 + (k : Int)) = K at *
  rw [l1, List.getElem?_map] at hget
  cases hl : (liveF rs)[n]? with
  | none => rw [hl] at hget; cases hget
  | some e =>
    rw [hl] at hget
    simp only [Option.map_some, Option.some.injEq] at hget
    have hlt : n < liveM rs := by rw [← liveF_len]; exact (List.getElem?_eq_some_iff.1 hl).1
    obtain ⟨e', g1, g2⟩ := atM_live h hlt hb
    rw [hl] at g1
    injection g1 with g1
    subst g1
    rw [← hget]
    exact ⟨g2, FindM_live h hn hl⟩
theorem place_all {rs : List MR} (h : ∀ r ∈ rs, idxOk r) (hm : mayF rs) : (keysP (piecesM rs)).length = liveM rs := by
  rw [(pieces_live h hm).1, List.length_map, liveF_len]
end Go.Proofs.Ytcgioboiebanpaa
