/- Worlds that only have grown: draws made, blocks laid behind; regions of such operations. For any program. -/
import Derived.Sort.Grow
import Derived.Test.YtkapidcgonjbaaaBase
namespace Go.Proofs.Ytkapidcgonjbaaa
open Go.RowKit Go.Sort
set_option linter.unusedVariables false

/-- Some draws on, some blocks more. -/
def Gr (w w' : World) : Prop := ∃ q os, w' = Go.Sort.grow (w.drewN q) os
theorem Gr.refl (w : World) : Gr w w := ⟨0, #[], by rw [Go.Sort.grow_empty, World.drewN_zero]⟩
theorem Gr.drewN (w : World) (n : Nat) : Gr w (w.drewN n) := ⟨n, #[], by rw [Go.Sort.grow_empty]⟩
theorem Gr.drew (w : World) : Gr w w.drew := Gr.drewN w 1
theorem Gr.alloc (w : World) (o : Obj) : Gr w (w.alloc o) := ⟨0, #[o], by rw [World.drewN_zero, Go.Sort.alloc_eq_grow]⟩
theorem Gr.trans {a b c : World} (h1 : Gr a b) (h2 : Gr b c) : Gr a c := by
  obtain ⟨q, os, rfl⟩ := h1
  obtain ⟨q', os', rfl⟩ := h2
  exact ⟨q + q', os ++ os', by simp [Go.Sort.grow, World.drewN, Array.append_assoc, Nat.add_assoc]⟩
theorem Gr.below {w w' : World} (h : Gr w w') : Below w.heap.size w w' := by
  obtain ⟨q, os, rfl⟩ := h
  refine ⟨rfl, rfl, rfl, by simp [Go.Sort.grow], fun k hk => ?_⟩
  simp only [Go.Sort.grow, World.heap_drewN]
  rw [Array.getElem?_append_left hk]

/-- As wp_region_specsL, what an operation does to the world: growth. -/
theorem wp_region_specsG {P : Program} {l : List Oper} {Q : Exit → Act → World → Prop} {a0 : Act} {w0 : World} {id : Nat} (D : List (List Nat)) (T : List (Option Tmp)) (L : List Nat) (Sl : List (Value → World → Prop)) (hm : P.follows .mixedOrders = true) (hok : specsOk l a0.tmps.size D T L = true)
    (hst : Stables Gr Sl)
    (hop : Obls P l T a0 (fun w => Gr w0 w) (fun _ _ => True) (fun _ a b => Gr a b) (fun i => Sl.getD i anyv) 0 D l)
    (hend : ∀ vs w, Gr w0 w → DepH (fun i => Sl.getD i anyv) vs w L → Q .normal (putL T vs L a0) w) :
    (Code.region id l.toArray true).wp P Q a0 w0 :=
  wp_region_specs D T L Gr (fun i => Sl.getD i anyv) hm hok (Gr.drew _) (fun _ _ _ h1 h2 => h1.trans h2) (Stables.get hst) hop hend
end Go.Proofs.Ytkapidcgonjbaaa
