/- A law's row, from a walk that ends in 'true' and 'Below': whatever its parameters' types. -/
import Derived.Test.YtcgioboiebanpaaRows
import Derived.Below
import Derived.WideKeyArgs
import Derived.WalkKit
import Derived.ProofKit
namespace Go.Proofs.Ytcgioboiebanpaa
open Go.RowKit Go.WideShapes Go.ChangeShapes

theorem all_stays {H : Type} {enc : TypeId × Value → H} {P : Program} (hl : laidOutB P = true) {W W' : World} (hb : Below W.heap.size W W') :
    ∀ (ts : List TypeId) (vs : List Value) (ds : List (DataW H)) (ps : List MemPlace), (ts.all fun t => P.readableRec t && decide (t < P.types.size)) = true →
      DataW.TrodAll enc P W 0 (fun _ => true) true ts vs ds ps → (∀ x ∈ ps, x.block < W.heap.size) →
      DataW.TrodAll enc P W' 0 (fun b => decide (b < W.heap.size)) true ts vs ds ps := by
  intro ts
  induction ts with
  | nil => intro vs ds ps _ h _; obtain ⟨rfl, rfl, rfl⟩ := trodAll_nil h; exact trodAll_mk0
  | cons t ts ih =>
    intro vs ds ps ht h hlt
    obtain ⟨v, vs', d, ds', p, q, rfl, rfl, rfl, h1, h2⟩ := trodAll_cons h
    rw [List.all_cons, Bool.and_eq_true, Bool.and_eq_true] at ht
    exact ⟨p, q, WideElems.Trod_stays hl ht.1.1 (of_decide_eq_true ht.1.2) h1 (fun x hx => hb.same (hlt x (List.mem_append_left _ hx))) (fun x hx => decide_eq_true (hlt x (List.mem_append_left _ hx))),
      ih vs' ds' q ht.2 h2 (fun x hx => hlt x (List.mem_append_right _ hx)), rfl⟩

theorem law_post {H : Type} {enc : TypeId × Value → H} {P : Program} {f : Func} {s : ChangeSpec} {tb : TypeId} {W W' : World} {args : Array Value} {ds gs : List (DataW H)} {before : List MemPlace}
    (hl : laidOutB P = true) (hts : (f.params.toList.all fun t => P.readableRec t && decide (t < P.types.size)) = true) (hrt : f.resultTypes = #[tb]) (htb : P.underlying tb = some .bool)
    (hvars : s.vars = []) (hfn : s.fn H (ds ++ []) = { results := [.lit (.bool true)], args := ds })
    (hW : DataW.Whole enc P f.params.toList s.vars false W args.toList ds gs before) (hb : Below W.heap.size W W') :
    s.post enc P f false true false false W args (.bool true) W' := by
  have hlt : ∀ x ∈ before, x.block < W.heap.size := fun x hx => hW.lt x hx
  have hW0 := hW
  obtain ⟨p, q, hA, hV, hbef, _, _⟩ := hW0
  have hx : DataW.TrodVars enc P W (fun _ => true) [] gs q := by rw [hvars] at hV; exact hV
  obtain ⟨rfl, hq⟩ := trodVars_none hx
  have hbef' : before = p := by rw [hbef, hq, List.append_nil]
  refine ⟨ds, [], before, [], p, [], hW, ?_, ?_, ?_, hb.frame _, fun h => by cases h⟩
  · rw [hrt, hfn]
    exact trodAll_mk1 (shut_bool htb true)
  · rw [hfn]
    exact all_stays hl hb _ _ _ _ hts hA (fun x hx => hlt x (hbef' ▸ hx))
  · rw [hvars, hfn]
    rfl

theorem laidOut : laidOutB Try.prog = true := by kernel_rfl
theorem own : ownKnob Try.prog.godebug = none := by kernel_rfl
end Go.Proofs.Ytcgioboiebanpaa
