/- The rows of children. -/
import Derived.Test.YtchbpfkjhilgiaaNc
import Derived.Test.YtchbpfkjhilgiaaHd
namespace Go.Proofs.Ytchbpfkjhilgiaa
open Go.RowKit
set_option linter.unusedVariables false

abbrev Hdr := Option Addr × Nat × Nat
def hdr0 : Hdr := (none, 0, 0)
def hvl (h : Hdr) : Value := .slice h.1 h.2.1 h.2.2
/-- Rows of places, one a header, no two in one block. -/
structure KidRows (n base go : Nat) (hs : List Hdr) (K : Nat → List Nat) (w : World) : Prop where
  len : hs.length = n + 1
  hd : hdrR.row 27 base hs (.slice (some ⟨go, 0, none⟩) (n + 1) (n + 1)) w
  row : ∀ p, p ≤ n → intR.row 3 base (toI (K p)) (hvl (hs.getD p hdr0)) w
  dis : ∀ p q, p ≤ n → q ≤ n → p ≠ q → ∀ g, (hvl (hs.getD p hdr0)).ownBlock = some g → (hvl (hs.getD q hdr0)).ownBlock ≠ some g
section
variable {n base go : Nat} {hs : List Hdr} {K : Nat → List Nat} {w w' : World}
theorem KidRows.below (h : KidRows n base go hs K w) (hb : Below w.heap.size w w') : KidRows n base go hs K w' :=
  ⟨h.len, h.hd.below hb, fun p hp => (h.row p hp).below hb, h.dis⟩
theorem KidRows.at (h : KidRows n base go hs K w) {p : Nat} (hp : p ≤ n) : w.cell? ⟨go, p, none⟩ = some (hvl (hs.getD p hdr0)) := by
  have hx : hs[p]? = some (hs.getD p hdr0) := by simp [List.getD_eq_getElem?_getD, show p < hs.length by rw [h.len]; omega]
  exact hdr_at hx h.hd
theorem KidRows.start (n : Nat) (hn : n ≤ 10000) (w : World) : KidRows n w.heap.size w.heap.size (List.replicate (n + 1) hdr0) (fun _ => []) (w.alloc (.cells (madeCells #[.slice none 0 0] (n + 1)) 27)) where
  len := by simp
  hd := hrow_made w 27 (n + 1) (by omega)
  row := fun p hp => by
    have : (List.replicate (n + 1) hdr0).getD p hdr0 = hdr0 := by simp [List.getD_eq_getElem?_getD, List.getElem?_replicate]; split <;> rfl
    rw [this]; exact Rec.row.nil
  dis := fun p q hp hq hne g hg => by
    have : (List.replicate (n + 1) hdr0).getD p hdr0 = hdr0 := by simp [List.getD_eq_getElem?_getD, List.getElem?_replicate]; split <;> rfl
    rw [this] at hg; cases hg
theorem KidRows.goBlock (h : KidRows n base go hs K w) : base ≤ go ∧ ∃ cur, w.heap[go]? = some (Obj.cells cur 27 (0, 0)) := row_block h.hd go rfl
theorem KidRows.block (h : KidRows n base go hs K w) {p : Nat} (hp : p ≤ n) {g : Nat} (hg : (hvl (hs.getD p hdr0)).ownBlock = some g) : base ≤ g ∧ g < w.heap.size ∧ g ≠ go := by
  obtain ⟨h1, cur, h2⟩ := row_block (h.row p hp) g hg
  refine ⟨h1, (Array.getElem?_eq_some_iff.1 h2).1, fun he => ?_⟩
  obtain ⟨_, cur', h3⟩ := h.goBlock
  rw [← he, h2] at h3
  injection h3 with h4
  injection h4 with _ h5
  cases h5
/-- A place is appended to a row; its header is stored. -/
theorem KidRows.app {p i : Nat} (hp : p ≤ n) (h : KidRows n base go hs K w) {v' : Value} {h' : Hdr} (hv : v' = hvl h') (hr : intR.row 3 base (toI (K p ++ [i])) v' w') (hg : w.grownBy w' (hvl (hs.getD p hdr0)).ownBlock)
    (hf : v'.ownBlock = (hvl (hs.getD p hdr0)).ownBlock ∨ v'.ownBlock = some w.heap.size) :
    KidRows n base go (hs.set p h') (fun q => if q = p then K p ++ [i] else K q) (w'.setCell ⟨go, p, none⟩ v') ∧ w'.frozen? ⟨go, p, none⟩ = false ∧ (∃ u, w'.cell? ⟨go, p, none⟩ = some u) ∧ Below base w' (w'.setCell ⟨go, p, none⟩ v') := by
  subst hv
  have hlen := h.len
  have hpl : p < hs.length := by omega
  have hgo : w'.heap[go]? = w.heap[go]? := by
    obtain ⟨_, cur, h2⟩ := h.goBlock
    refine hg.block go (Array.getElem?_eq_some_iff.1 h2).1 (fun he => ?_)
    exact (h.block hp he.symm).2.2 rfl
  have hd' : hdrR.row 27 base hs (.slice (some ⟨go, 0, none⟩) (n + 1) (n + 1)) w' := row_same h.hd (fun g hg => by cases hg; exact hgo)
  have hset := hdr_set h' hpl hd'
  have hgo' : ∃ cur, w'.heap[go]? = some (Obj.cells cur 27 (0, 0)) := (row_block hd' go rfl).2
  have hnew : ∀ g, (hvl h').ownBlock = some g → g ≠ go := by
    intro g hgg he
    obtain ⟨_, cur, h2⟩ := row_block hr g hgg
    obtain ⟨cur', h3⟩ := hgo'
    rw [← he, h2] at h3
    injection h3 with h4
    injection h4 with _ h5
    cases h5
  have hget : ∀ q, (hs.set p h').getD q hdr0 = if q = p then h' else hs.getD q hdr0 := by
    intro q
    simp only [List.getD_eq_getElem?_getD, List.getElem?_set]
    by_cases hqp : q = p
    · subst hqp; simp [hpl]
    · rw [if_neg (fun h => hqp h.symm), if_neg hqp]
  have hlt : ∀ q, q ≤ n → ∀ g, (hvl (hs.getD q hdr0)).ownBlock = some g → g < w.heap.size := fun q hq g hgq => (h.block hq hgq).2.1
  refine ⟨⟨by rw [List.length_set, hlen], hset.1, fun q hq => ?_, fun a b ha hb hab g hga => ?_⟩, hdr_frozen hpl hd', ?_, hset.2⟩
  · rw [hget]
    by_cases hqp : q = p
    · subst hqp
      simp only [if_true]
      exact row_same hr (fun g hgg => Below.heap_setCell w' ⟨go, q, none⟩ _ g (hnew g hgg))
    · rw [if_neg hqp, if_neg hqp]
      refine row_same (h.row q hq) (fun g hgq => ?_)
      rw [Below.heap_setCell w' ⟨go, p, none⟩ _ g (h.block hq hgq).2.2]
      refine hg.block g (hlt q hq g hgq) (fun he => ?_)
      exact h.dis q p hq hp hqp g hgq he.symm
  · rw [hget] at hga ⊢
    by_cases hap : a = p
    · have hbp : b ≠ p := fun he => hab (hap.trans he.symm)
      rw [if_pos hap] at hga
      rw [if_neg hbp]
      intro hgb
      rcases hf with hf | hf
      · rw [hf] at hga
        exact h.dis p b hp hb (fun he => hbp he.symm) g hga hgb
      · rw [hf] at hga
        cases hga
        exact Nat.lt_irrefl _ (hlt b hb _ hgb)
    · rw [if_neg hap] at hga
      by_cases hbp : b = p
      · rw [if_pos hbp]
        intro hgb
        rcases hf with hf | hf
        · rw [hf] at hgb
          exact h.dis a p ha hp hap g hga hgb
        · rw [hf] at hgb
          cases hgb
          exact Nat.lt_irrefl _ (hlt a ha _ hga)
      · rw [if_neg hbp]
        exact h.dis a b ha hb hab g hga
  · have hx : hs[p]? = some (hs.getD p hdr0) := by simp [List.getD_eq_getElem?_getD, hpl]
    exact ⟨_, hdr_at hx hd'⟩
/-- A row is sorted. -/
theorem KidRows.sorted {p : Nat} {O : List Nat} (hp : p ≤ n) (h : KidRows n base go hs K w) (hr : intR.row 3 base (toI O) (hvl (hs.getD p hdr0)) w') (hg : w.grownBy w' (hvl (hs.getD p hdr0)).ownBlock) :
    KidRows n base go hs (fun q => if q = p then O else K q) w' := by
  refine ⟨h.len, row_same h.hd (fun g hgg => ?_), fun q hq => ?_, h.dis⟩
  · cases hgg
    obtain ⟨_, cur, h2⟩ := h.goBlock
    refine hg.block go (Array.getElem?_eq_some_iff.1 h2).1 (fun he => ?_)
    exact (h.block hp he.symm).2.2 rfl
  · by_cases hqp : q = p
    · subst hqp; rw [if_pos rfl]; exact hr
    · rw [if_neg hqp]
      exact row_same (h.row q hq) (fun g hgq => hg.block g (h.block hq hgq).2.1 (fun he => h.dis q p hq hp hqp g hgq he.symm))
end
theorem KidRows.congr {n base go : Nat} {hs : List Hdr} {K K' : Nat → List Nat} {w : World} (h : KidRows n base go hs K w) (he : ∀ p, p ≤ n → K p = K' p) : KidRows n base go hs K' w :=
  ⟨h.len, h.hd, fun p hp => by rw [← he p hp]; exact h.row p hp, h.dis⟩
/-- Where an element stands among the rows. -/
def slotN (l : List Nd) (i : Nat) : Nat := if parN l i < 0 then l.length else (parN l i).toNat
def preN (l : List Nd) (k p : Nat) : List Nat := (List.range k).filter fun i => slotN l i == p
theorem preN_succ (l : List Nd) (k p : Nat) : preN l (k + 1) p = if p = slotN l k then preN l k (slotN l k) ++ [k] else preN l k p := by
  unfold preN
  rw [List.range_succ, List.filter_append]
  by_cases h : p = slotN l k
  · subst h; simp
  · rw [if_neg h]
    have : (slotN l k == p) = false := by simpa using fun he => h he.symm
    simp [this]
def upN (l : List Nd) (p : Nat) : Option Nat := if p < l.length then some p else none
theorem kids_pre {l : List Nd} (h : RightL l) {p : Nat} (hp : p ≤ l.length) : sortK l (preN l l.length p) = (forest l).kids (upN l p) := by
  unfold sortK Forest.kids preN
  congr 1
  refine List.filter_congr (fun i hi => ?_)
  have hi := List.mem_range.1 hi
  obtain ⟨_, h2, h3, _⟩ := h.1 i hi
  unfold slotN upN forest
  simp only
  by_cases h4 : parN l i < 0
  · rw [if_pos h4, if_pos h4]
    by_cases h5 : p < l.length
    · rw [if_pos h5]; simp; omega
    · rw [if_neg h5]; simp; omega
  · rw [if_neg h4, if_neg h4]
    by_cases h5 : p < l.length
    · rw [if_pos h5]; rw [Bool.eq_iff_iff]; simp
    · rw [if_neg h5]; simp; omega
end Go.Proofs.Ytchbpfkjhilgiaa
