/- BlockNil: the walk, where the text is short. -/
import Derived.Test.YtcgioboiebanpaaOj
import Derived.Test.YtcgioboiebanpaaRows
namespace Go.Proofs.Ytcgioboiebanpaa
open Go.RowKit Go.Maps Go.WideShapes Go.ChangeShapes Go.Deep
set_option linter.unusedVariables false

set_option maxRecDepth 100000 in
theorem trod_strD {H : Type} {enc : TypeId × Value → H} {W : World} {fuel : Nat} {l : List Value} {x : DataW H × List MemPlace} (hx : DataW.trod enc Try.prog W 0 (fun _ => true) true fuel 9 l = some x) : ∃ s : ByteArray, l = [.string s] ∧ x.1 = .lit (.string s.data.toList) := by
  cases fuel with
  | zero => simp [DataW.trod] at hx
  | succ m =>
    unfold DataW.trod at hx
    rw [Try.underlying9] at hx
    split at hx <;> simp_all
    rw [← hx.2]
set_option maxRecDepth 100000 in
theorem act_small {H : Type} {enc : TypeId × Value → H} {W : World} {x : AV} {d : DataW H} {p : List MemPlace} (hx : actRng x) (h : DataW.Trod enc Try.prog W 0 (fun _ => true) true 28 (.agg (actL x).toArray) d p) : x.2.2.2.1.size ≤ Rows.uptoBulk d := by
  obtain ⟨fuel, hf⟩ := h
  obtain ⟨xs, n, _, hdp, hl, hlen, hff⟩ := DataW.trod_struct Try.underlying28 hf
  have hd : d = .agg (xs.map fun x => x.fst) := congrArg Prod.fst hdp
  subst hd
  match xs, hlen with
  | [y0, y1, y2, y3, y4], _ =>
    have h3 := hff 3 _ rfl
    obtain ⟨s, e3, e4⟩ := trod_strD h3
    have c9 : Try.prog.cellsOf 9 = 1 := by kernel_rfl
    simp only [Value.cells] at e3
    have l1 := keyL_len x.2.1.1 x.2.1.2.1 x.2.1.2.2 hx.k32
    have l2 := keyL_len x.2.2.1.1 x.2.2.1.2.1 x.2.2.1.2.2 hx.a32
    have e5 : ((actL x).drop 69).take 1 = [.string x.2.2.2.1] := by
      unfold actL
      rw [List.drop_append, List.drop_of_length_le (by simp only [List.length_append, List.length_singleton]; omega)]
      simp only [List.length_append, List.length_singleton, l1, l2, List.nil_append]
      rfl
    have e6 : x.2.2.2.1 = s := by
      have h9 : ((actL x).drop 69).take 1 = [.string s] := by rw [← c9]; exact e3
      rw [e5] at h9
      simpa using h9
    subst e6
    have e7 : x.2.2.2.1.data.toList.length = x.2.2.2.1.size := Array.length_toList
    simp only [List.map_cons, List.map_nil, Rows.uptoBulk, Rows.uptoBulkAll, e4]
    omega
set_option maxRecDepth 100000 in
theorem blockNil_walk {H : Type} {enc : TypeId × Value → H} {W : World} {b0 : Nat} {v1 : Value} {d1 : DataW H} {p1 : List MemPlace}
    (k1 : Value.okWide Try.prog W .any b0 28 v1) (h1 : DataW.Trod enc Try.prog W 0 (fun _ => true) true 28 v1 d1 p1) (hk : Rows.uptoBulkAll [d1] ≤ 1048576) :
    Calls Try.prog 7 #[v1] W fun e w' => e = .returned (.bool true) ∧ Below W.heap.size W w' := by
  obtain ⟨x, hx, rfl⟩ := reads_act (ok_agg Try.underlying28 k1) h1
  have h2 := act_small hx h1
  simp only [Rows.uptoBulkAll] at hk
  exact lawNil_any x hx (by omega) W
end Go.Proofs.Ytcgioboiebanpaa
