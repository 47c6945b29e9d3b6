/- '==' on keys; the laws OrderCompares and OrderTotal: walks. -/
import Derived.Test.YtchbpfkjhilgiaaRd
import Derived.Laws.StructEq
namespace Go.Proofs.Ytchbpfkjhilgiaa
open Go.RowKit Go.WideShapes Go.ChangeShapes Go.ChangeMaps
set_option linter.unusedVariables false

def keyEq (t : Int) (c : List UInt8) (i : Int) (t' : Int) (c' : List UInt8) (i' : Int) : Bool := (t == t') && ((c == c') && (i == i'))

theorem run_part_id (xs : Array Value) (off : Nat) (w : World) : (part 36 xs off).run Try.prog w = .ok (.agg (xs.extract off (off + 32))) w := by
  have h : (Try.prog.info? 36).map (·.size) = some 32 := by kernel_rfl
  cases hq : Try.prog.info? 36 with
  | none => rw [hq] at h; cases h
  | some i =>
    have hs : i.size = 32 := by simpa [hq] using h
    simp [part, isAgg, run_underlying Try.underlying36, sizeOf, typeInfo, hq, hs]

theorem eq3 (t t' : Int) (w : World) : (Op.equalIn (9998 + 1) 3 (.int .i64 t) (.int .i64 t')).run Try.prog w = .ok (t == t') w := run_equalIn_int w 9998 3 .i64 .i64 _ _ Try.underlying3
theorem eq23 (c c' : List UInt8) (w : World) (hc : c.length = 32) (hc' : c'.length = 32) : (Op.equalIn (9997 + 2) 36 (.agg (idB c)) (.agg (idB c'))).run Try.prog w = .ok (c == c') w := run_equalIn_ids 9997 c c' w hc hc'
theorem fields25 : Try.prog.fieldsOf 38 = #[⟨"Time", 3, 0, false, "", "", 0⟩, ⟨"Change", 36, 1, false, "", "", 8⟩, ⟨"Index", 3, 33, false, "", "", 40⟩] := by kernel_rfl
theorem u25 : Try.prog.underlying 38 = some (.struct (Try.prog.fieldsOf 38)) := by kernel_rfl
theorem held25 : Try.prog.stoodInHeld 38 = false := by kernel_rfl
theorem eqF (d : Nat) (t : Int) (c : List UInt8) (i : Int) (t' : Int) (c' : List UInt8) (i' : Int) (w : World) (hc : c.length = 32) (hc' : c'.length = 32)
    (e1 : (Op.equalIn d 3 (.int .i64 t) (.int .i64 t')).run Try.prog w = .ok (t == t') w) (e2 : (Op.equalIn d 36 (.agg (idB c)) (.agg (idB c'))).run Try.prog w = .ok (c == c') w)
    (e3 : (Op.equalIn d 3 (.int .i64 i) (.int .i64 i')).run Try.prog w = .ok (i == i') w) :
    (Op.eqFields d (keyB t c i) (keyB t' c' i') (Try.prog.fieldsOf 38).toList).run Try.prog w = .ok (keyEq t c i t' c' i') w := by
  have hp3 : Try.prog.plainKey 3 = true := by kernel_rfl
  have p1 := run_part_plain w hp3 (keyB_0 t c i)
  have p2 := run_part_plain w hp3 (keyB_0 t' c' i')
  have p3 := run_part_plain w hp3 (keyB_33 t c i hc)
  have p4 := run_part_plain w hp3 (keyB_33 t' c' i' hc')
  have p5 := run_part_id (keyB t c i) 1 w
  have p6 := run_part_id (keyB t' c' i') 1 w
  rw [show 1 + 32 = 33 from rfl, keyB_id t c i hc] at p5
  rw [show 1 + 32 = 33 from rfl, keyB_id t' c' i' hc'] at p6
  rw [fields25]
  simp only [Op.eqFields, Sem.run_bind, Sem.run_ite, p1, p2, p3, p4, p5, p6, e1, e2, e3, Result.andThen_ok, Sem.run_pure, keyEq]
  cases h1 : (t == t') <;> cases h2 : (c == c') <;> cases h3 : (i == i') <;> simp

@[go_sem ↓] theorem run_eql_keys (t : Int) (c : List UInt8) (i : Int) (t' : Int) (c' : List UInt8) (i' : Int) (w : World) (hc : c.length = 32) (hc' : c'.length = 32) :
    (binOp .eql 38 (.agg (keyB t c i)) (.agg (keyB t' c' i'))).run Try.prog w = .ok (.bool (keyEq t c i t' c' i')) w := by
  have e1 := eq3 t t' w
  have e2 := eq23 c c' w hc hc'
  have e3 := eq3 i i' w
  rw [run_eql_struct, show (10000 : Nat) = 9998 + 1 + 1 from rfl, run_equalIn_struct w (9998 + 1) 38 _ _ u25 held25, eqF (9998 + 1) t c i t' c' i' w hc hc' e1 e2 e3]
  rfl

end Go.Proofs.Ytchbpfkjhilgiaa
