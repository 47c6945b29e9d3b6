/- A piece is not unlike itself. -/
import Derived.Test.YtcgioboiebanpaaQc
namespace Go.Proofs.Ytcgioboiebanpaa
open Go.RowKit Go.WideShapes Go.ChangeShapes Go.ChangeMaps
set_option linter.unusedVariables false

set_option maxRecDepth 100000 in
@[go_sem ↓] theorem load41 (f : Operand → Value) (x : Operand) (dst : Option Tmp) (ty' : TypeId) (pos : String) (after : Array Edge) (guard : Option (Nat × Bool)) (w : World)
    (hp : isPtr (f x) = true) (hf : fits w (addrOf (f x)) 36) :
    (execOp f ⟨dst, .load 41 x, ty', pos, after, guard⟩).run Try.prog w = .ok (.value (.agg (aggAt w (addrOf (f x)) 36))) w :=
  run_exec_load Try.underlying41 rfl (by kernel_rfl) f x dst ty' pos after guard w hp hf
theorem run_part_key (xs : Array Value) (w : World) : (part 26 xs 0).run Try.prog w = .ok (.agg (xs.extract 0 34)) w := by
  have h : (Try.prog.info? 26).map (·.size) = some 34 := by kernel_rfl
  cases hq : Try.prog.info? 26 with
  | none => rw [hq] at h; cases h
  | some i =>
    have hs : i.size = 34 := by simpa [hq] using h
    simp [part, isAgg, run_underlying u25, sizeOf, typeInfo, hq, hs]
theorem fields41 : Try.prog.fieldsOf 41 = #[⟨"Key", 26, 0, false, "", "", 0⟩, ⟨"N", 3, 34, false, "", "", 48⟩, ⟨"Text", 9, 35, false, "", "", 56⟩] := by kernel_rfl
theorem u41 : Try.prog.underlying 41 = some (.struct (Try.prog.fieldsOf 41)) := by kernel_rfl
theorem held41 : Try.prog.stoodInHeld 41 = false := by kernel_rfl
theorem eqK (k : KV) (w : World) (hk : k.2.1.length = 32) : (Op.equalIn (9998 + 1) 26 (.agg (keyB k.1 k.2.1 k.2.2)) (.agg (keyB k.1 k.2.1 k.2.2))).run Try.prog w = .ok true w := by
  have e1 : (Op.equalIn (9997 + 1) 3 (.int .i64 k.1) (.int .i64 k.1)).run Try.prog w = .ok (k.1 == k.1) w := run_equalIn_int w 9997 3 .i64 .i64 _ _ Try.underlying3
  have e2 : (Op.equalIn (9996 + 2) 24 (.agg (idB k.2.1)) (.agg (idB k.2.1))).run Try.prog w = .ok (k.2.1 == k.2.1) w := run_equalIn_ids 9996 k.2.1 k.2.1 w hk hk
  have e3 : (Op.equalIn (9997 + 1) 3 (.int .i64 k.2.2) (.int .i64 k.2.2)).run Try.prog w = .ok (k.2.2 == k.2.2) w := run_equalIn_int w 9997 3 .i64 .i64 _ _ Try.underlying3
  rw [run_equalIn_struct w 9998 26 _ _ u25 held25, eqF 9998 k.1 k.2.1 k.2.2 k.1 k.2.1 k.2.2 w hk hk e1 e2 e3]
  simp [keyEq]
@[go_sem ↓] theorem run_neq_piece (p : PV) (w : World) (hk : p.1.2.1.length = 32) : (binOp .neq 41 (.agg (pieceB p)) (.agg (pieceB p))).run Try.prog w = .ok (.bool false) w := by
  have e1 := eqK p.1 w hk
  have e2 : (Op.equalIn (9998 + 1) 3 (.int .i64 p.2.1) (.int .i64 p.2.1)).run Try.prog w = .ok (p.2.1 == p.2.1) w := run_equalIn_int w 9998 3 .i64 .i64 _ _ Try.underlying3
  have e3 : (Op.equalIn (9998 + 1) 9 (.string (strB p.2.2)) (.string (strB p.2.2))).run Try.prog w = .ok ((strB p.2.2).toList == (strB p.2.2).toList) w := run_equalIn_string w 9998 9 _ _ Try.underlying9
  have hs : (keyB p.1.1 p.1.2.1 p.1.2.2).size = 34 := by rw [keyB_size, hk]
  have c34 : (pieceB p)[34]? = some (.int .i64 p.2.1) := by
    unfold pieceB
    rw [Array.getElem?_append_right (by omega), hs]; rfl
  have c35 : (pieceB p)[35]? = some (.string (strB p.2.2)) := by
    unfold pieceB
    rw [Array.getElem?_append_right (by omega), hs]; rfl
  have hp3 : Try.prog.plainKey 3 = true := by kernel_rfl
  have hp9 : Try.prog.plainKey 9 = true := by kernel_rfl
  have p1 := run_part_key (pieceB p) w
  have hx : (pieceB p).extract 0 34 = keyB p.1.1 p.1.2.1 p.1.2.2 := by
    unfold pieceB
    rw [← hs]
    apply Array.ext'
    simp
  rw [hx] at p1
  have p2 := run_part_plain w hp3 c34
  have p3 := run_part_plain w hp9 c35
  rw [run_neq_struct, show (10000 : Nat) = 9998 + 1 + 1 from rfl, run_equalIn_struct w (9998 + 1) 41 _ _ u41 held41, fields41]
  simp only [Op.eqFields, Sem.run_bind, Sem.run_ite, p1, p2, p3, e1, e2, e3, Result.andThen_ok, Sem.run_pure]
  simp
end Go.Proofs.Ytcgioboiebanpaa
