/- What arguments hold: ids, keys, slices of them. -/
import Derived.Test.YtchbpfkjhilgiaaOv
import Derived.ProofKit
import Derived.OpenShut
import Derived.ChangeArms
import Derived.ChangeSlices
import Derived.Deep.Slices
import Derived.Deep.Strs
namespace Go.Proofs.Ytchbpfkjhilgiaa
open Go.RowKit Go.WideShapes Go.ChangeShapes Go.ChangeMaps Go.Deep
set_option linter.unusedVariables false

theorem fits_of_cells {w : World} {b off n : Nat} {sp : Option Nat} {cs : List Value} (hn : 0 < n) (h : w.cells? 0 ⟨b, off, none⟩ n = some cs) :
    fits w ⟨b, off, none⟩ n ∧ (aggAt w ⟨b, off, none⟩ n).toList = cs ∧ cs.length = n := by
  obtain ⟨_, hlen, hc⟩ := World.cells?_some h
  have hadd : ∀ j, (⟨b, off, none⟩ : Addr).add j = ⟨b, off + j, none⟩ := fun j => by unfold Addr.add; split <;> simp_all
  have hl := hc (n - 1) (by omega)
  rw [hadd] at hl
  have hf : fits w ⟨b, off, none⟩ n := by
    have hx : ∃ v, w.cell? ⟨b, off + (n - 1), none⟩ = some v := by
      refine ⟨cs[n - 1]'(by omega), ?_⟩
      rw [hl]; simp
    obtain ⟨v, hv⟩ := hx
    unfold World.cell? at hv
    split at hv
    · rename_i c t fr hh
      simp at hv
      have := (Array.getElem?_eq_some_iff.1 hv).1
      exact ⟨rfl, c, t, fr, hh, by simp; omega⟩
    · cases hv
  refine ⟨hf, ?_, hlen⟩
  apply List.ext_getElem?
  intro j
  by_cases hj : j < n
  · have h1 := aggAt_get hf hj
    have h2 := hc j hj
    rw [hadd, h1] at h2
    simpa using h2
  · rw [List.getElem?_eq_none (by rw [Array.length_toList, aggAt_size hf]; omega), List.getElem?_eq_none (by omega)]

theorem slice_reads {H : Type} {enc : TypeId × Value → H} {P : Program} {W : World} {t e : TypeId} {n : Nat} {v : Value} {d : DataW H} {p : List MemPlace} {α : Type} [Inhabited α] (Is : List Value → α → Prop)
    (ht : P.underlying t = some (.slice e)) (hc : P.cellsOf e = n) (hn : 0 < n)
    (hIs : ∀ fuel cs x, DataW.trod enc P W 0 (fun _ => true) true fuel e cs = some x → ∃ a, Is cs a)
    (h : DataW.Trod enc P W 0 (fun _ => true) true t v d p) (hok : ∃ a len cap, v = .slice a len cap) :
    ∃ (a : Option Addr) (cap : Nat) (xs : List α), v = .slice a xs.length cap ∧ xs.length ≤ cap ∧ cap ≤ maxLen ∧ (a = none → xs = [] ∧ cap = 0) ∧
      (xs = [] ∨ ∃ b off, a = some ⟨b, off, none⟩ ∧ ∀ i, i < xs.length → fits W ⟨b, off + i * n, none⟩ n ∧ Is (aggAt W ⟨b, off + i * n, none⟩ n).toList (xs.getD i default)) := by
  obtain ⟨a0, len0, cap0, rfl⟩ := hok
  obtain ⟨fuel, hf⟩ := h
  rcases open_slice ht hf with ⟨hcs, _⟩ | ⟨a, len, cap, m, n', D, Pl, hcs, _, hl, hm, hmm, _, hx⟩
  · simp [Value.cells] at hcs
    obtain ⟨rfl, rfl, rfl⟩ := hcs
    exact ⟨none, 0, [], rfl, by simp, by unfold maxLen; omega, fun _ => ⟨rfl, rfl⟩, .inl rfl⟩
  · simp [Value.cells] at hcs
    obtain ⟨rfl, rfl, rfl⟩ := hcs
    simp only [if_true] at hmm
    subst hmm
    obtain ⟨V, hV⟩ := choose_lt (α := α) (n := len0) (p := fun i x => ∃ cs', W.cells? 0 (a.add (i * n)) n = some cs' ∧ Is cs' x) (fun i hi => by
      obtain ⟨cs', h1, h2⟩ := hx i (by omega)
      obtain ⟨x, hx⟩ := hIs _ _ _ h2
      rw [hc] at h1
      exact ⟨x, cs', h1, hx⟩)
    refine ⟨some a, m, (List.range len0).map V, by simp, by simpa using hl, hm, (fun h => by cases h), ?_⟩
    by_cases h0 : len0 = 0
    · subst h0; exact .inl (by simp)
    right
    obtain ⟨b, off, sp⟩ := a
    have hsp : sp = none := by
      obtain ⟨cs', h1, _⟩ := hV 0 (by omega)
      obtain ⟨_, hlen, hcc⟩ := World.cells?_some h1
      have h2 := hcc 0 hn
      have h3 : cs'[0]? = some (cs'[0]'(by omega)) := by simp
      rw [h3] at h2
      cases sp with
      | none => rfl
      | some s => simp [World.cell?, Addr.add] at h2; split at h2 <;> simp at h2
    subst hsp
    have hadd : ∀ j, (⟨b, off, none⟩ : Addr).add j = ⟨b, off + j, none⟩ := fun j => by unfold Addr.add; split <;> simp_all
    refine ⟨b, off, rfl, fun i hi => ?_⟩
    simp only [List.length_map, List.length_range] at hi
    obtain ⟨cs', h1, h2⟩ := hV i hi
    rw [hadd] at h1
    obtain ⟨h3, h4, h5⟩ := fits_of_cells (sp := none) hn h1
    refine ⟨h3, ?_⟩
    rw [h4]
    simpa [hi] using h2

theorem cells5 : Try.prog.cellsOf 5 = 1 := by kernel_rfl
theorem cells23 : Try.prog.cellsOf 36 = 32 := by kernel_rfl

theorem trod_id {H : Type} {enc : TypeId × Value → H} {W : World} {fuel : Nat} {cs : List Value} {x : DataW H × List MemPlace}
    (h : DataW.trod enc Try.prog W 0 (fun _ => true) true fuel 36 cs = some x) : ∃ z : List UInt8, z.length = 32 ∧ cs = Lib.byteCells z := by
  obtain ⟨xs, m, _, _, hl, hx, hi⟩ := DataW.trod_array Try.underlying36 h
  rw [cells23] at hl
  rw [cells5] at hi
  have hb : ∀ i, i < 32 → ∃ c : UInt8, cs[i]? = some (.int .u8 c.toNat) := fun i h32 => by
    have h1 := hi i h32
    have hc : cs[i]? = some (cs[i]'(by omega)) := by simp
    have hd : (cs.drop (i * 1)).take 1 = [cs[i]'(by omega)] := by
      rw [Nat.mul_one, List.drop_eq_getElem_cons (by omega), List.take_succ_cons, List.take_zero]
    rw [hd] at h1
    generalize cs[i]'(by omega) = u at *
    have h3 : xs[i]? = some (xs[i]'(by omega)) := by simp
    rw [h3] at h1
    have h2 : ∃ n, u = .int .u8 n ∧ (Lit.int .u8 n).wf = true := by
      cases m with
      | zero => simp [DataW.trod] at h1
      | succ m =>
        unfold DataW.trod at h1
        rw [Try.underlying5] at h1
        split at h1 <;> simp_all
    obtain ⟨n, rfl, hw⟩ := h2
    have hb := bounds_u8 hw
    exact ⟨UInt8.ofNat n.toNat, by rw [hc]; simp; omega⟩
  obtain ⟨V, hV⟩ := choose_lt (α := UInt8) (n := 32) (p := fun i c => cs[i]? = some (.int .u8 c.toNat)) hb
  refine ⟨(List.range 32).map V, by simp, ?_⟩
  apply List.ext_getElem?
  intro j
  by_cases hj : j < 32
  · rw [hV j hj]; simp [Lib.byteCells, hj]
  · rw [List.getElem?_eq_none (by omega), List.getElem?_eq_none (by simp [Lib.byteCells]; omega)]

/-- An argument that is an id. -/
theorem reads_id {H : Type} {enc : TypeId × Value → H} {W : World} {v : Value} {d : DataW H} {p : List MemPlace}
    (hok : ∃ cs, v = .agg cs) (h : DataW.Trod enc Try.prog W 0 (fun _ => true) true 36 v d p) : ∃ z : List UInt8, z.length = 32 ∧ v = .agg (idB z) := by
  obtain ⟨cs, rfl⟩ := hok
  obtain ⟨fuel, hf⟩ := h
  obtain ⟨z, hl, hz⟩ := trod_id hf
  refine ⟨z, hl, ?_⟩
  simp only [Value.cells] at hz
  unfold idB
  rw [← hz]

set_option maxRecDepth 100000 in
theorem trod_key {H : Type} {enc : TypeId × Value → H} {W : World} {fuel : Nat} {cs : List Value} {x : DataW H × List MemPlace}
    (h : DataW.trod enc Try.prog W 0 (fun _ => true) true fuel 38 cs = some x) : ∃ (t : Int) (c : List UInt8) (i : Int), c.length = 32 ∧ cs = (keyB t c i).toList ∧ (Lit.int .i64 t).wf = true ∧ (Lit.int .i64 i).wf = true := by
  have hi : ∀ fuel (l : List Value) x, DataW.trod enc Try.prog W 0 (fun _ => true) true fuel 3 l = some x → ∃ n, l = [.int .i64 n] ∧ (Lit.int .i64 n).wf = true := fun fuel l x hx => by
    cases fuel with
    | zero => simp [DataW.trod] at hx
    | succ m =>
      unfold DataW.trod at hx
      rw [Try.underlying3] at hx
      split at hx <;> simp_all
  obtain ⟨y0, y1, y2, n, _, hl, h0, h1, h2⟩ := trod_struct3 Try.underlying38 h
  obtain ⟨t, e0, w0⟩ := hi _ _ _ h0
  obtain ⟨c, hc, e1⟩ := trod_id h1
  obtain ⟨i, e2, w2⟩ := hi _ _ _ h2
  refine ⟨t, c, i, hc, ?_, w0, w2⟩
  have c3 : Try.prog.cellsOf 3 = 1 := by kernel_rfl
  have c25 : Try.prog.cellsOf 38 = 34 := by kernel_rfl
  rw [c25] at hl
  simp only [c3, cells23] at e0 e1 e2
  rw [keyB_list]
  simp only [← e0, ← e1, ← e2]
  have a1 := List.take_append_drop 1 cs
  have a2 := List.take_append_drop 32 (cs.drop 1)
  rw [List.drop_drop] at a2
  have a3 : (cs.drop 33).take 1 = cs.drop 33 := List.take_of_length_le (by simp; omega)
  simp only [List.drop_zero]
  rw [a3, List.append_assoc, a2, a1]

theorem reads_key {H : Type} {enc : TypeId × Value → H} {W : World} {v : Value} {d : DataW H} {p : List MemPlace}
    (hok : ∃ cs, v = .agg cs) (h : DataW.Trod enc Try.prog W 0 (fun _ => true) true 38 v d p) : ∃ (t : Int) (c : List UInt8) (i : Int), c.length = 32 ∧ v = .agg (keyB t c i) := by
  obtain ⟨cs, rfl⟩ := hok
  obtain ⟨fuel, hf⟩ := h
  obtain ⟨t, c, i, hl, hz, _, _⟩ := trod_key hf
  refine ⟨t, c, i, hl, ?_⟩
  simp only [Value.cells] at hz
  rw [show cs = keyB t c i from Array.ext' hz]

end Go.Proofs.Ytchbpfkjhilgiaa
