/- An argument that is a slice of slices of floats. -/
import Derived.Test.YtkapidcgonjbaaaPe
import Derived.Test.YtkapidcgonjbaaaSw
namespace Go.Proofs.Ytkapidcgonjbaaa
open Go.RowKit Go.WideShapes Go.ChangeShapes Go.ChangeMaps Go.Deep
set_option linter.unusedVariables false

/-- Slices that hold floats in a given world. -/
def hdrW (W : World) : Rec (Option Addr × Nat × Nat) where
  enc h := [.slice h.1 h.2.1 h.2.2]
  sz := 1
  ok h := ∃ r, fltR.Sl W (.slice h.1 h.2.1 h.2.2) r
  pos := by decide
  len _ _ := rfl
  one x _ u hu := by simp at hu; subst hu; rfl
theorem trod_slice30 {H : Type} {enc : TypeId × Value → H} {W : World} {fuel : Nat} {cs : List Value} {y : DataW H × List MemPlace} (hf : DataW.trod enc Try.prog W 0 (fun _ => true) true fuel 30 cs = some y) :
    ∃ a len cap, cs = [.slice a len cap] := by
  rcases open_slice Try.underlying30 hf with ⟨hcs, _⟩ | ⟨a, len, cap, m, n', D, Pl, hcs, _⟩
  · exact ⟨_, _, _, hcs⟩
  · exact ⟨_, _, _, hcs⟩
theorem reads_mat {H : Type} {enc : TypeId × Value → H} {W : World} {v : Value} {d : DataW H} {p : List MemPlace}
    (h : DataW.Trod enc Try.prog W 0 (fun _ => true) true 29 v d p) (hok : ∃ a len cap, v = .slice a len cap) :
    ∃ rows a cap, v = .slice a rows.length cap ∧ rows.length ≤ cap ∧ cap ≤ maxLen ∧ MatW W a rows ∧ (a = none → rows = [] ∧ cap = 0) := by
  obtain ⟨hs, a, cap, rfl, h1, h2, h3, h4⟩ := Rec.reads (R := hdrW W) Try.underlying29 (by kernel_rfl) (fun fuel cs y hy => by
    obtain ⟨a, len, cap, rfl⟩ := trod_slice30 hy
    obtain ⟨r, hr⟩ := Rec.reads (R := fltR) (v := .slice a len cap) Try.underlying30 (by kernel_rfl) (fun fuel cs y hy => trod_flt hy) (d := y.1) (p := y.2) ⟨fuel, hy⟩ ⟨_, _, _, rfl⟩
    exact ⟨(a, len, cap), ⟨r, hr⟩, rfl⟩) h hok
  have hex : ∀ i, i < hs.length → ∃ r, fltR.Sl W (.slice (hs.getD i (none, 0, 0)).1 (hs.getD i (none, 0, 0)).2.1 (hs.getD i (none, 0, 0)).2.2) r := fun i hi => by
    have : hs.getD i (none, 0, 0) ∈ hs := by
      rw [List.getD_eq_getElem?_getD, List.getElem?_eq_getElem hi]; exact List.getElem_mem hi
    exact h3.1 _ this
  obtain ⟨V, hV⟩ := choose_lt (α := List Nat) hex
  refine ⟨(List.range hs.length).map V, a, cap, by simp, by simpa using h1, h2, ⟨hs, ?_, by simp, fun i hd r hi hr => ?_⟩, fun h => by obtain ⟨e1, e2⟩ := h4 h; exact ⟨by rw [e1]; rfl, e2⟩⟩
  · exact ⟨fun _ _ => trivial, h3.2⟩
  · have hlt := (List.getElem?_eq_some_iff.1 hi).1
    have e1 : hs.getD i (none, 0, 0) = hd := by rw [List.getD_eq_getElem?_getD, hi]; rfl
    have e2 : V i = r := by
      rw [List.getElem?_map, List.getElem?_range hlt] at hr
      simpa using hr
    have := hV i hlt
    rw [e1, e2] at this
    exact this
end Go.Proofs.Ytkapidcgonjbaaa
