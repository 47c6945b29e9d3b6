/- The rows of children. -/
import Derived.Test.YtchbpfkjhilgiaaNc
import Derived.Test.YtchbpfkjhilgiaaHd
namespace Go.Proofs.Ytchbpfkjhilgiaa
open Go.RowKit
set_option linter.unusedVariables false

abbrev Hdr := Option Addr × Nat × Nat
def hdr0 : Hdr := (none, 0, 0)
def hvl (h : Hdr) : Value := .slice h.1 h.2.1 h.2.2
/-- Rows of places, one a header, no two in one block. -/
structure KidRows (n base go : Nat) (hs : List Hdr) (K : Nat → List Nat) (w : World) : Prop where
  len : hs.length = n + 1
  hd : hdrR.row 27 base hs (.slice (some ⟨go, 0, none⟩) (n + 1) (n + 1)) w
  row : ∀ p, p ≤ n → intR.row 3 base (toI (K p)) (hvl (hs.getD p hdr0)) w
  dis : ∀ p q, p ≤ n → q ≤ n → p ≠ q → ∀ g, (hvl (hs.getD p hdr0)).ownBlock = some g → (hvl (hs.getD q hdr0)).ownBlock ≠ some g
section
variable {n base go : Nat} {hs : List Hdr} {K : Nat → List Nat} {w w' : World}
theorem KidRows.below (h : KidRows n base go hs K w) (hb : Below w.heap.size w w') : KidRows n base go hs K w' :=
  ⟨h.len, h.hd.below hb, fun p hp => (h.row p hp).below hb, h.dis⟩
theorem KidRows.at (h : KidRows n base go hs K w) {p : Nat} (hp : p ≤ n) : w.cell? ⟨go, p, none⟩ = some (hvl (hs.getD p hdr0)) := by
  have hx : hs[p]? = some (hs.getD p hdr0) := by simp [List.getD_eq_getElem?_getD, show p < hs.length by rw [h.len]; omega]
  exact hdr_at hx h.hd
theorem KidRows.start (n : Nat) (hn : n ≤ 10000) (w : World) : KidRows n w.heap.size w.heap.size (List.replicate (n + 1) hdr0) (fun _ => []) (w.alloc (.cells (madeCells #[.slice none 0 0] (n + 1)) 27)) where
  len := by simp
  hd := hrow_made w 27 (n + 1) (by omega)
  row := fun p hp => by
    have : (List.replicate (n + 1) hdr0).getD p hdr0 = hdr0 := by simp [List.getD_eq_getElem?_getD, List.getElem?_replicate]; split <;> rfl
    rw [this]; exact Rec.row.nil
  dis := fun p q hp hq hne g hg => by
    have : (List.replicate (n + 1) hdr0).getD p hdr0 = hdr0 := by simp [List.getD_eq_getElem?_getD, List.getElem?_replicate]; split <;> rfl
    rw [this] at hg; cases hg
theorem KidRows.goBlock (h : KidRows n base go hs K w) : base ≤ go ∧ ∃ cur, w.heap[go]? = some (Obj.cells cur 27 (0, 0)) := row_block h.hd go rfl
theorem KidRows.block (h : KidRows n base go hs K w) {p : Nat} (hp : p ≤ n) {g : Nat} (hg : (hvl (hs.getD p hdr0)).ownBlock = some g) : base ≤ g ∧ g < w.heap.size ∧ g ≠ go := by
  obtain ⟨h1, cur, h2⟩ := row_block (h.row p hp) g hg
  refine ⟨h1, (Array.getElem?_eq_some_iff.1 h2).1, fun he => ?_⟩
  obtain ⟨_, cur', h3⟩ := h.goBlock
  rw [← he, h2] at h3
  injection h3 with h4
  injection h4 with _ h5
  cases h5
/-- A place is appended to a row; its header is stored. -/
theorem KidRows.app {p i : Nat} (hp : p ≤ n) (h : KidRows n base go hs K w) {v' : Value} {h' : Hdr} (hv : v' = hvl h') (hr : intR.row 3 base (toI (K p ++ [i])) v' w') (hg : w.grownBy w' (hvl (hs.getD p hdr0)).ownBlock)
    (hf : v'.ownBlock = (hvl (hs.getD p hdr0)).ownBlock ∨ v'.ownBlock = some w.heap.size) :
    KidRows n base go (hs.set p h') (fun q => if q = p then K p ++ [i] else K q) (w'.setCell ⟨go, p, none⟩ v') ∧ w'.frozen? ⟨go, p, none⟩ = false ∧ (∃ u, w'.cell? ⟨go, p, none⟩ = some u) ∧ Below base w' (w'.setCell ⟨go, p, none⟩ v') := by
  subst hv
  have hlen := h.len
  have hpl : p < hs.length := by omega
  have hgo : w'.heap[go]? = w.heap[go]? := by
    obtain ⟨_, cur, h2⟩ := h.goBlock
    refine hg.block go (Array.getElem?_eq_some_iff.1 h2).1 (fun he => ?_)
    exact (h.block hp he.symm).2.2 rfl
  have hd' : hdrR.row 27 base hs (.slice (some ⟨go, 0, none⟩) (n + 1) (n + 1)) w' := row_same h.hd (fun g hg => by cases hg; exact hgo)
  have hset := hdr_set h' hpl hd'
  have hgo' : ∃ cur, w'.heap[go]? = some (Obj.cells cur 27 (0, 0)) := (row_block hd' go rfl).2
  have hnew : ∀ g, (hvl h').ownBlock = some g → g ≠ go := by
    intro g hgg he
    obtain ⟨_, cur, h2⟩ := row_block hr g hgg
    obtain ⟨cur', h3⟩ := hgo'
    rw [← he, h2] at h3
    injection h3 with h4
    injection h4 with _ h5
    cases h5
  have hget : ∀ q, (hs.set p h').getD q hdr0 = if q = p then h' else hs.getD q hdr0 := by
    intro q
    simp only [List.getD_eq_getElem?_getD, List.getElem?_set]
    by_cases hqp : q = p
    · subst hqp; simp [hpl]
    · rw [if_neg (fun h => hqp h.symm), if_neg hqp]
  have hlt : ∀ q, q ≤ n → ∀ g, (hvl (hs.getD q hdr0)).ownBlock = some g → g < w.heap.size := fun q hq g hgq => (h.block hq hgq).2.1
  refine ⟨⟨by rw [List.length_set, hlen], hset.1, fun q hq => ?_, fun a b ha hb hab g hga => ?_⟩, hdr_frozen hpl hd', ?_, hset.2⟩
  · rw [hget]
    by_cases hqp : q = p
    · subst hqp
      simp only [if_true]
      exact row_same hr (fun g hgg => Below.heap_setCell w' ⟨go, q, none⟩ _ g (hnew g hgg))
    · rw [if_neg hqp, if_neg hqp]
      refine row_same (h.row q hq) (fun g hgq => ?_)
      rw [Below.heap_setCell w' ⟨go, p, none⟩ _ g (h.block hq hgq).2.2]
      refine hg.block g (hlt q hq g hgq) (fun he => ?_)
      exact h.dis q p hq hp hqp g hgq he.symm
  · rw [hget] at hga ⊢
    by_cases hap : a = p
    · have hbp : b ≠ p := fun he => hab (hap.trans he.symm)
      rw [if_pos hap] at hga
      rw [if_neg hbp]
      intro hgb
      rcases hf with hf | hf
      · rw [hf] at hga
        exact h.dis p b hp hb (fun he => hbp he.symm) g hga hgb
      · rw [hf] at hga
        cases hga
        exact Nat.lt_irrefl _ (hlt b hb _ hgb)
    · rw [if_neg hap] at hga
      by_cases hbp : b = p
      · rw [if_pos hbp]
        intro hgb
        rcases hf with hf | hf
        · rw [hf] at hgb
          exact h.dis a p ha hp hap g hga hgb
        · rw [hf] at hgb
          cases hgb
          exact Nat.lt_irrefl _ (hlt a ha _ hga)
      · rw [if_neg hbp]
        exact h.dis a b ha hb hab g hga
  · have hx : hs[p]? = some (hs.getD p hdr0) := by simp [List.getD_eq_getElem?_getD, hpl]
    exact ⟨_, hdr_at hx hd'⟩
/-- A row is sorted. -/
theorem KidRows.sorted {p : Nat} {O : List Nat} (hp : p ≤ n) (h : KidRows n base go hs K w) (hr : intR.row 3 base (toI O) (hvl (hs.getD p hdr0)) w') (hg : w.grownBy w' (hvl (hs.getD p hdr0)).ownBlock) :
    KidRows n base go hs (fun q => if q = p then O else K q) w' := by
  refine ⟨h.len, row_same h.hd (fun g hgg => ?_), fun q hq => ?_, h.dis⟩
  · cases hgg
    obtain ⟨_, cur, h2⟩ := h.goBlock
    refine hg.block go (Array.getElem?_eq_some_iff.1 h2).1 (fun he => ?_)
    exact (h.block hp he.symm).2.2 rfl
  · by_cases hqp : q = p
    · subst hqp; rw [if_pos rfl]; exact hr
    · rw [if_neg hqp]
      exact row_same (h.row q hq) (fun g hgq => hg.block g (h.block hq hgq).2.1 (fun he => h.dis q p hq hp hqp g hgq he.symm))
end
theorem KidRows.congr {n base go : Nat} {hs : List Hdr} {K K' : Nat → List Nat} {w : World} (h : KidRows n base go hs K w) (he : ∀ p, p ≤ n → K p = K' p) : KidRows n base go hs K' w :=
  ⟨h.len, h.hd, fun p hp => by rw [← he p hp]; exact h.row p hp, h.dis⟩
/-- Where an element stands among the rows. -/
def slotN (l : List Nd) (i : Nat) : Nat := if parN l i < 0 then l.length else (parN l i).toNat
def preN (l : List Nd) (k p : Nat) : List Nat := (List.range k).filter fun i => slotN l i == p
theorem preN_succ (l : List Nd) (k p : Nat) : preN l (k + 1) p = if p = slotN l k then preN l k (slotN l k) ++ [k] else preN l k p := by
  unfold preN
  rw [List.range_succ, List.filter_append]
  by_cases h : p = slotN l k
  · subst h; simp
  · rw [if_neg h]
    have : (slotN l k == p) = false := by simpa using fun he => h he.symm
    simp [this]
def upN (l : List Nd) (p : Nat) : Option Nat := if p < l.length then some p else none
theorem kids_pre {l : List Nd} (h : RightL l) {p : Nat} (hp : p ≤ l.length) : sortK l (preN l l.length p) = (forest l).kids (upN l p) := by
  unfold sortK Forest.kids preN
  congr 1
  refine List.filter_congr (fun i hi => ?_)
  have hi := List.mem_range.1 hi
  obtain ⟨_, h2, h3, _⟩ := h.1 i hi
  unfold slotN upN forest
  simp only
  by_cases h4 : parN l i < 0
  · rw [if_pos h4, if_pos h4]
    by_cases h5 : p < l.length
    · rw [if_pos h5]; simp; omega
    · rw [if_neg h5]; simp; omega
  · rw [if_neg h4, if_neg h4]
    by_cases h5 : p < l.length
    · rw [if_pos h5]; rw [Bool.eq_iff_iff]; simp
    · rw [if_neg h5]; simp; omega
end Go.Proofs.Ytchbpfkjhilgiaa

namespace Go.Proofs.Ytchbpfkjhilgiaa
open Go.RowKit
set_option linter.unusedVariables false

theorem info27e : (Try.prog.info? 27).map (fun i => (i.zero, i.size, i.bytes)) = some (some (.slice none 0 0), 1, 24) := by kernel_rfl
@[go_sem ↓] theorem mk59 (n : Nat) (h : n ≤ 1000000) (w : World) : (Instr.makeSlice 59 (.int .i64 (n : Int)) (.int .i64 (n : Int))).run Try.prog w = .ok (.slice (some ⟨w.heap.size, 0, none⟩) n n) (w.alloc (.cells (madeCells #[.slice none 0 0] n) 27)) := by
  have h4 := info27e
  cases hi : Try.prog.info? 27 with
  | none => rw [hi] at h4; cases h4
  | some i =>
    rw [hi] at h4
    simp at h4
    obtain ⟨z0, z1, z2⟩ := h4
    have := run_make (P := Try.prog) w 59 27 i _ Try.underlying59 hi z0 .i64 .i64 n n (by omega) (Int.le_refl _) (by rw [z2]; omega) (by omega)
    rw [this, z1]
    simp [Value.cells]
theorem toI_snoc (K : List Nat) (k : Nat) : toI (K ++ [k]) = toI K ++ [(k : Int)] := by simp [toI]

set_option maxHeartbeats 4000000 in
set_option maxRecDepth 100000 in
theorem children_any (p : Option Addr) (c : Nat) (l : List Nd) (w : World) (hlen : l.length ≤ 1000) (hin : nodeR.In w p l) (hR : RightL l) :
    Calls Try.prog 25 #[.slice p l.length c] w fun e w' => ∃ go hs, e = .returned (.slice (some ⟨go, 0, none⟩) (l.length + 1 : Nat) (l.length + 1 : Nat)) ∧ KidRows l.length (w.heap.size + 1) go hs (fun q => (forest l).kids (upN l q)) w' ∧ Below w.heap.size w w' := by
  obtain ⟨W, hW⟩ : ∃ W, W = w.alloc (.cells #[.slice p l.length c] 25) := ⟨_, rfl⟩
  have hb0 := (Below.refl w.heap.size w).alloc (Nat.le_refl _) (.cells #[.slice p l.length c] 25)
  have hcell : (w.alloc (.cells #[.slice p l.length c] 25)).cell? ⟨w.heap.size, 0, none⟩ = some (.slice p l.length c) := by
    rw [Lib.cell_of_heap (MapKept.heap_alloc w _).1]; rfl
  have hWs : (w.alloc (.cells #[.slice p l.length c] 25)).heap.size = w.heap.size + 1 := by simp
  rw [← hW] at hb0 hcell hWs
  have HX := Lib.hid hin
  have HB0 := Lib.hid hb0
  have HWs := Lib.hid hWs
  have HR := Lib.hid hR
  have hks := KidRows.start l.length (by omega) W
  have hbe := (Below.refl W.heap.size W).alloc (Nat.le_refl _) (.cells (madeCells #[.slice none 0 0] (l.length + 1)) 27)
  have HCL := Lib.hid (show ∀ W', Below W.heap.size W W' → W'.cell? ⟨w.heap.size, 0, none⟩ = some (.slice p l.length c) from fun W' hb => (hb.cell (p := ⟨w.heap.size, 0, none⟩) (by rw [hWs]; show w.heap.size < _; omega)).trans hcell)
  have f1 : IntKind.i64.wrap ((l.length : Int) + 1) = (l.length : Int) + 1 := IntWalk.i64_in _ (by omega)
  have hmk : ∀ w, (Instr.makeSlice 59 (.int .i64 ((l.length : Int) + 1)) (.int .i64 ((l.length : Int) + 1))).run Try.prog w = .ok (.slice (some ⟨w.heap.size, 0, none⟩) (l.length + 1) (l.length + 1)) (w.alloc (.cells (madeCells #[.slice none 0 0] (l.length + 1)) 27)) := fun w => by
    have := mk59 (l.length + 1) (by omega) w
    rwa [show ((l.length + 1 : Nat) : Int) = (l.length : Int) + 1 by omega] at this
  have f2 : l.length + 1 ≤ 1000000 := by omega
  clear hWs
  go_enter Try.func25, Try.ntmps25
  go_upto_region 1 with fail
  rw [← hW]
  clear hW
  go_upto_region 2 with fail
  obtain ⟨W0, hW0⟩ : ∃ W0, W0 = W.alloc (.cells (madeCells #[.slice none 0 0] (l.length + 1)) 27) := ⟨_, rfl⟩
  rw [← hW0] at hks hbe ⊢
  obtain ⟨go, hgo⟩ : ∃ go, go = W.heap.size := ⟨_, rfl⟩
  rw [← hgo] at hks ⊢
  have HGO := Lib.hid hgo
  have HKS := Lib.hid hks
  have HB1 := Lib.hid hbe
  have hcell0 := HCL.out W0 hbe
  clear hW0 hks hbe hgo hb0 hcell hin hR
  go_wp2_with fail
  go_loopg [15] l.length (fun g v15 wr => ∃ (k : Nat) (hs : List Hdr), g + k = l.length ∧ v15 = .int .i64 k ∧ KidRows l.length go go hs (preN l k) wr ∧ Below W.heap.size W wr)
  case atStart => exact ⟨0, _, by omega, rfl, HKS.out.congr (fun q _ => by simp [preN]), HB1.out⟩
  case round =>
    obtain ⟨k, hs, hg, rfl, hkr, hbw⟩ := hrel
    have HG := Lib.hid hg
    have HKR := Lib.hid hkr
    have HB := Lib.hid hbw
    clear hg hkr hbw hcell0
    by_cases hk : k < l.length
    · obtain ⟨b, off, rfl, hlt, h32, hat⟩ := node_at (HX.out.below (HB0.out.trans (HB.out.mono HB0.out.size))) hk
      have hokk := HR.out.1 k hk
      obtain ⟨x, hx⟩ : ∃ x, x = l.getD k nd0 := ⟨_, rfl⟩
      have HPX := Lib.hid (show parN l k = x.2.1 by rw [hx]; rfl)
      rw [← hx] at h32 hat
      have e1 := hat.f
      have e2 := hat.a
      have i1 : (k : Int) < l.length := by omega
      have hnew := NdAt.new wr x 41 h32
      have hba := (Below.refl wr.heap.size wr).alloc (Nat.le_refl _) (.cells (ndB x) 41)
      obtain ⟨wA, hwA⟩ : ∃ wA, wA = wr.alloc (.cells (ndB x) 41) := ⟨_, rfl⟩
      rw [← hwA] at hnew hba
      have HBA := Lib.hid (HB.out.trans (hba.mono HB.out.size))
      have HKA := Lib.hid (HKR.out.below hba)
      have HSL := Lib.hid (show slotN l k ≤ l.length ∧ (slotN l k : Int) = if x.2.1 < 0 then (l.length : Int) else x.2.1 by
        have h2 := hokk.2.1
        have h3 := hokk.2.2.1
        rw [HPX.out] at h2 h3
        unfold slotN
        rw [HPX.out]
        split <;> omega)
      have hpa := hnew.p
      have HCA := Lib.hid (HCL.out wA HBA.out)
      obtain ⟨⟨kt, kc, ki⟩, xp, xr, xd⟩ := x
      simp only [Nat.zero_add] at hpa HSL
      clear hnew hx hat hba hokk HPX
      go_upto_region 5 with fail
      rw [← hwA]
      clear hwA e1 e2
      generalize wr.heap.size = nA at *
      obtain ⟨sl, hsl⟩ : ∃ sl, sl = slotN l k := ⟨_, rfl⟩
      have HSE := Lib.hid hsl
      rw [← hsl] at HSL
      have j1 : (sl : Int) < ((l.length + 1 : Nat) : Int) := by have := HSL.out.1; omega
      have j2 : (sl : Int) < (l.length : Int) + 1 := by omega
      have hslot := HSL.out.2
      by_cases hneg : xp < 0
      · rw [if_pos hneg] at hslot
        obtain rfl : sl = l.length := by omega
        have hca := HCA.out
        clear hslot hsl
        have hcellp := HKA.out.at (p := l.length) HSL.out.1
        have hrowp := HKA.out.row l.length HSL.out.1
        obtain ⟨⟨ha, hn, hc⟩, hh⟩ : ∃ h, h = hs.getD l.length hdr0 := ⟨_, rfl⟩
        rw [← hh] at hcellp hrowp
        unfold hvl at hcellp hrowp
        simp only at hcellp hrowp
        have hbb := (Below.refl wA.heap.size wA).alloc (Nat.le_refl _) (.cells #[.int .i64 (k : Int)] 3)
        have HRP := Lib.hid (hrowp.below hbb)
        have HIN := Lib.hid (show intR.In (wA.alloc (.cells #[.int .i64 (k : Int)] 3)) (some ⟨wA.heap.size, 0, none⟩) [(k : Int)] from Rec.In.one (R := intR) wA 3 (k : Int) trivial)
        have HKB := Lib.hid (HKA.out.below hbb)
        have HBB := Lib.hid (HBA.out.trans (hbb.mono HBA.out.size))
        have HLN := Lib.hid (show (toI (preN l k l.length)).length + 1 ≤ 100000000 by
          have h1 : (preN l k l.length).length ≤ (List.range k).length := List.length_filter_le _ _
          rw [List.length_range] at h1
          rw [toI_len]; omega)
        have HH := Lib.hid hh
        have HGS := Lib.hid (show go ≤ (wA.alloc (.cells #[.int .i64 (k : Int)] 3)).heap.size by rw [HGO.out]; exact HBB.out.size)
        clear hrowp hbb hh HKA
        go_wp2_with (at_builtin; refine wpList_appF int27 rfl _ _ rfl go _ (toI (preN l k l.length)) [(k : Int)] (toI (preN l k l.length ++ [k])) (toI_snoc _ _) rfl HRP.out ⟨wA.heap.size, 0, none⟩ 1 rfl HIN.out Nat.one_pos HLN.out HGS.out ?_)
        rintro v7 w7 hr7 hg7 hb7 hf7
        obtain ⟨a7, c7, rfl, hl7, hm7, _, _⟩ := hr7.sl
        have happ := KidRows.app (h' := (a7, (toI (preN l k l.length ++ [k])).length, c7)) (i := k) HSL.out.1 HKB.out rfl hr7 (by rw [← HH.out]; exact hg7) (by rw [← HH.out, World.size_alloc]; exact hf7)
        obtain ⟨hk7, hfz, ⟨u, hcu⟩, hbs⟩ := happ
        have HK7 := Lib.hid hk7
        have HB7 := Lib.hid (HBB.out.trans (show Below W.heap.size _ _ by rw [← HGO.out]; exact hb7.trans hbs))
        generalize (toI (preN l k l.length ++ [k])).length = n7 at *
        clear hcellp hr7 hg7 hb7 hf7 hk7 hbs hl7 hm7
        go_wp2
        go_roundg (gk - 1)
        case measure => have := HG.out; omega
        case rel => exact ⟨k + 1, _, by have := HG.out; omega, by go_num, HK7.out.congr (fun q _ => by rw [preN_succ, ← HSE.out]), HB7.out⟩
      · rw [if_neg hneg] at hslot
        obtain rfl : xp = (sl : Int) := by omega
        clear hslot hsl
        have hcellp := HKA.out.at (p := sl) HSL.out.1
        have hrowp := HKA.out.row sl HSL.out.1
        obtain ⟨⟨ha, hn, hc⟩, hh⟩ : ∃ h, h = hs.getD sl hdr0 := ⟨_, rfl⟩
        rw [← hh] at hcellp hrowp
        unfold hvl at hcellp hrowp
        simp only at hcellp hrowp
        have hbb := (Below.refl wA.heap.size wA).alloc (Nat.le_refl _) (.cells #[.int .i64 (k : Int)] 3)
        have HRP := Lib.hid (hrowp.below hbb)
        have HIN := Lib.hid (show intR.In (wA.alloc (.cells #[.int .i64 (k : Int)] 3)) (some ⟨wA.heap.size, 0, none⟩) [(k : Int)] from Rec.In.one (R := intR) wA 3 (k : Int) trivial)
        have HKB := Lib.hid (HKA.out.below hbb)
        have HBB := Lib.hid (HBA.out.trans (hbb.mono HBA.out.size))
        have HLN := Lib.hid (show (toI (preN l k sl)).length + 1 ≤ 100000000 by
          have h1 : (preN l k sl).length ≤ (List.range k).length := List.length_filter_le _ _
          rw [List.length_range] at h1
          rw [toI_len]; omega)
        have HH := Lib.hid hh
        have HGS := Lib.hid (show go ≤ (wA.alloc (.cells #[.int .i64 (k : Int)] 3)).heap.size by rw [HGO.out]; exact HBB.out.size)
        clear hrowp hbb hh HKA
        go_wp2_with (at_builtin; refine wpList_appF int27 rfl _ _ rfl go _ (toI (preN l k sl)) [(k : Int)] (toI (preN l k sl ++ [k])) (toI_snoc _ _) rfl HRP.out ⟨wA.heap.size, 0, none⟩ 1 rfl HIN.out Nat.one_pos HLN.out HGS.out ?_)
        rintro v7 w7 hr7 hg7 hb7 hf7
        obtain ⟨a7, c7, rfl, hl7, hm7, _, _⟩ := hr7.sl
        have happ := KidRows.app (h' := (a7, (toI (preN l k sl ++ [k])).length, c7)) (i := k) HSL.out.1 HKB.out rfl hr7 (by rw [← HH.out]; exact hg7) (by rw [← HH.out, World.size_alloc]; exact hf7)
        obtain ⟨hk7, hfz, ⟨u, hcu⟩, hbs⟩ := happ
        have HK7 := Lib.hid hk7
        have HB7 := Lib.hid (HBB.out.trans (show Below W.heap.size _ _ by rw [← HGO.out]; exact hb7.trans hbs))
        generalize (toI (preN l k sl ++ [k])).length = n7 at *
        clear hcellp hr7 hg7 hb7 hf7 hk7 hbs hl7 hm7
        go_wp2
        go_roundg (gk - 1)
        case measure => have := HG.out; omega
        case rel => exact ⟨k + 1, _, by have := HG.out; omega, by go_num, HK7.out.congr (fun q _ => by rw [preN_succ, ← HSE.out]), HB7.out⟩
    · have hke : k = l.length := by have := HG.out; omega
      subst hke
      rename World => w5
      go_wp2_with fail
      go_loopg [39] (l.length + 1) (fun g v39 wr => ∃ k : Nat, g + k = l.length + 1 ∧ v39 = .int .i64 k ∧ KidRows l.length go go hs (fun q => if q < k then sortK l (preN l l.length q) else preN l l.length q) wr ∧ Below W.heap.size W wr)
      case atStart => exact ⟨0, by omega, rfl, HKR.out.congr (fun q _ => by rw [if_neg (by omega)]), HB.out⟩
      case round =>
        obtain ⟨k, hg2, rfl, hkr2, hbw2⟩ := hrel
        have HG2 := Lib.hid hg2
        have HK2 := Lib.hid hkr2
        have HB2 := Lib.hid hbw2
        clear hg2 hkr2 hbw2
        by_cases hk : k < l.length + 1
        · have i1 : (k : Int) < ((l.length + 1 : Nat) : Int) := by omega
          have i2 : (k : Int) < (l.length : Int) + 1 := by omega
          have hcellp := HK2.out.at (p := k) (by omega)
          have hrowp := HK2.out.row k (by omega)
          rw [if_neg (by omega)] at hrowp
          have HSRT := Lib.hid (sortRow w.heap.size go l HR.out (preN l l.length k) (fun i hi => List.mem_range.1 (List.mem_filter.1 hi).1) (hvl (hs.getD k hdr0)) wr hrowp hlen (by
              have h1 : (preN l l.length k).length ≤ (List.range l.length).length := List.length_filter_le _ _
              rw [List.length_range] at h1; omega) (by rw [HGO.out, HWs.out]; omega) (fun hn0 => by
              have hin2 := HX.out.below (HB0.out.trans (HB2.out.mono HB0.out.size))
              rcases hin2.2 with h | ⟨b, off, rfl, hlt, hcc⟩
              · rw [h] at hn0; exact absurd rfl hn0
              · exact ⟨Nat.lt_of_lt_of_le (by rw [HWs.out]; omega) HB2.out.size, b, off, c, HCL.out wr HB2.out, hin2⟩) (fun hn0 b off c' hcc => by
              have := HCL.out wr HB2.out
              rw [hcc] at this
              injection this with h1
              injection h1 with h2
              subst h2
              rcases HX.out.2 with h | ⟨b', off', he, hlt, _⟩
              · rw [h] at hn0; exact absurd rfl hn0
              · cases he; rw [HGO.out, HWs.out]; omega))
          obtain ⟨⟨ha, hn, hc⟩, hh⟩ : ∃ h, h = hs.getD k hdr0 := ⟨_, rfl⟩
          have HH := Lib.hid hh
          rw [← hh] at hcellp HSRT
          unfold hvl at hcellp HSRT
          simp only at hcellp HSRT
          clear hrowp hh
          go_wp2_with fail
          refine HSRT.out.mono ?_
          rintro e w8 ⟨rfl, hr8, hg8⟩
          have HK8 := Lib.hid (KidRows.sorted (p := k) (O := sortK l (preN l l.length k)) (by omega) HK2.out (by rw [← HH.out]; exact hr8) (by rw [← HH.out]; exact hg8))
          have HB8 := Lib.hid (HB2.out.trans ((Below.refl W.heap.size wr).grown hg8 HB2.out.size (fun g hgg => by
            have := (HK2.out.block (p := k) (by omega) (g := g) (by rw [← HH.out]; exact hgg)).1
            rw [← HGO.out]; exact this)))
          clear hr8 hg8 hcellp
          go_wp2
          go_roundg (gk - 1)
          case measure => have := HG2.out; omega
          case rel => exact ⟨k + 1, by have := HG2.out; omega, by go_num, HK8.out.congr (fun q _ => by
            by_cases hqk : q = k
            · subst hqk; rw [if_pos rfl, if_pos (by omega)]
            · rw [if_neg hqk]
              by_cases hlt : q < k
              · rw [if_pos hlt, if_pos (by omega)]
              · rw [if_neg hlt, if_neg (by omega)]), HB8.out⟩
        · have HKE := Lib.hid (HK2.out.congr (K' := fun q => (forest l).kids (upN l q)) (fun q hq => by rw [if_pos (by have := HG2.out; omega)]; exact kids_pre HR.out hq))
          rw [HGO.out, HWs.out] at HKE
          have HGO2 := Lib.hid (show go = w.heap.size + 1 by rw [HGO.out, HWs.out])
          go_wp2
          go_ret
          exact ⟨go, hs, rfl, by rw [HGO2.out]; exact HKE.out, HB0.out.trans (HB2.out.mono HB0.out.size)⟩
end Go.Proofs.Ytchbpfkjhilgiaa
