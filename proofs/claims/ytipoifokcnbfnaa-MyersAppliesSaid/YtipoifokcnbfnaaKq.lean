/- Same; Cost. -/
import Derived.Test.YtipoifokcnbfnaaPd
import Derived.Laws.StructEq
import Derived.ChangeKeysEq
namespace Go.Proofs.Ytipoifokcnbfnaa
open Go.RowKit
set_option linter.unusedVariables false

theorem fields42 : Try.prog.fieldsOf 42 = #[⟨"Keep", 3, 0, false, "", "", 0⟩, ⟨"Drop", 3, 1, false, "", "", 8⟩, ⟨"Add", 9, 2, false, "", "", 16⟩] := by kernel_rfl
theorem u42 : Try.prog.underlying 42 = some (.struct (Try.prog.fieldsOf 42)) := by kernel_rfl
theorem held42 : Try.prog.stoodInHeld 42 = false := by kernel_rfl
def edEq (x y : Ed) : Bool := (x.1 == y.1) && ((x.2.1 == y.2.1) && (x.2.2 == y.2.2))
theorem edEq_iff (x y : Ed) : edEq x y = true ↔ x = y := by
  unfold edEq
  obtain ⟨a, b, c⟩ := x
  obtain ⟨a', b', c'⟩ := y
  simp
theorem str_beq (a b : List UInt8) : ((⟨a.toArray⟩ : ByteArray).toList == (⟨b.toArray⟩ : ByteArray).toList) = (a == b) := by
  rw [ByteArray.toList_eq, ByteArray.toList_eq]
theorem edF (d : Nat) (x y : Ed) (w : World) :
    (Op.eqFields (d + 1) (edB x) (edB y) (Try.prog.fieldsOf 42).toList).run Try.prog w = .ok (edEq x y) w := by
  have hp3 : Try.prog.plainKey 3 = true := by kernel_rfl
  have hp9 : Try.prog.plainKey 9 = true := by kernel_rfl
  have p1 := run_part_plain w hp3 (show (edB x)[0]? = some (.int .i64 x.1) from rfl)
  have p2 := run_part_plain w hp3 (show (edB y)[0]? = some (.int .i64 y.1) from rfl)
  have p3 := run_part_plain w hp3 (show (edB x)[1]? = some (.int .i64 x.2.1) from rfl)
  have p4 := run_part_plain w hp3 (show (edB y)[1]? = some (.int .i64 y.2.1) from rfl)
  have p5 := run_part_plain w hp9 (show (edB x)[2]? = some (.string ⟨x.2.2.toArray⟩) from rfl)
  have p6 := run_part_plain w hp9 (show (edB y)[2]? = some (.string ⟨y.2.2.toArray⟩) from rfl)
  have e1 := run_equalIn_int w d 3 .i64 .i64 x.1 y.1 Try.underlying3
  have e2 := run_equalIn_int w d 3 .i64 .i64 x.2.1 y.2.1 Try.underlying3
  have e3 := run_equalIn_string w d 9 ⟨x.2.2.toArray⟩ ⟨y.2.2.toArray⟩ Try.underlying9
  rw [str_beq] at e3
  rw [fields42]
  simp only [Op.eqFields, Sem.run_bind, Sem.run_ite, p1, p2, p3, p4, p5, p6, e1, e2, e3, Result.andThen_ok, Sem.run_pure, edEq]
  cases h1 : (x.1 == y.1) <;> cases h2 : (x.2.1 == y.2.1) <;> cases h3 : (x.2.2 == y.2.2) <;> simp
theorem run_neq_ed (x y : Ed) (w : World) : (binOp .neq 42 (.agg (edB x)) (.agg (edB y))).run Try.prog w = .ok (.bool (!edEq x y)) w := by
  rw [run_neq_struct, show (10000 : Nat) = 9998 + 1 + 1 from rfl, run_equalIn_struct w (9998 + 1) 42 _ _ u42 held42, edF 9998 x y w]
  rfl
@[go_sem ↓] theorem load42 (f : Operand → Value) (x : Operand) (dst : Option Tmp) (ty' : TypeId) (pos : String) (after : Array Edge) (guard : Option (Nat × Bool)) (w : World)
    (hp : isPtr (f x) = true) (hf : fits w (addrOf (f x)) 3) :
    (execOp f ⟨dst, .load 42 x, ty', pos, after, guard⟩).run Try.prog w = .ok (.value (.agg (aggAt w (addrOf (f x)) 3))) w :=
  run_exec_load Try.underlying42 rfl (by kernel_rfl) f x dst ty' pos after guard w hp hf

set_option maxHeartbeats 2000000 in
set_option maxRecDepth 100000 in
theorem same_any (a a' : Option Addr) (cap cap' : Nat) (xs ys : List Ed) (w : World) (hm : xs.length ≤ 1000000) (hm' : ys.length ≤ 1000000) (hin : edR.In w a xs) (hin' : edR.In w a' ys) :
    Calls Try.prog 15 #[.slice a xs.length cap, .slice a' ys.length cap'] w fun e w' => e = .returned (.bool (xs == ys)) ∧ Below w.heap.size w w' := by
  have HX := Lib.hid hin
  have HY := Lib.hid hin'
  clear hin hin'
  by_cases hlen : xs.length = ys.length
  case neg =>
    have hz : ((xs.length : Int) != (ys.length : Int)) = true := by simp; omega
    have HZ := Lib.hid (show (xs == ys) = false from beq_eq_false_iff_ne.2 (fun e => hlen (by rw [e])))
    go_enter Try.func15, Try.ntmps15
    go_wp2
    go_ret
    exact ⟨ret_boolB HZ.out.symm, Below.refl _ _⟩
  have HLEN := Lib.hid hlen
  have hz : ((xs.length : Int) = (ys.length : Int)) := by omega
  clear hlen
  go_enter Try.func15, Try.ntmps15
  go_wp2_with fail
  go_loopg [5] xs.length (fun g i wr => ∃ k : Nat, g + k = xs.length ∧ i = .int .i64 k ∧ xs.take k = ys.take k ∧ Below w.heap.size w wr)
  case atStart => exact ⟨0, by omega, rfl, by simp, Below.refl _ _⟩
  case round =>
    obtain ⟨k, hg, rfl, hall, hbw⟩ := hrel
    have HG := Lib.hid hg
    have HA := Lib.hid hall
    have HB := Lib.hid hbw
    clear hg hall hbw
    by_cases hk : k < xs.length
    · have hk' : k < ys.length := by have := HLEN.out; omega
      rcases HX.out.2 with h | ⟨b, off, rfl, hlt, hc⟩
      · subst h; simp at hk
      rcases HY.out.2 with h | ⟨b', off', rfl, hlt', hc'⟩
      · subst h; simp at hk'
      have hxk : xs[k]? = some (xs.getD k ed0) := by simp [List.getD_eq_getElem?_getD, hk]
      have hyk : ys[k]? = some (ys.getD k ed0) := by simp [List.getD_eq_getElem?_getD, hk']
      obtain ⟨e1, e5⟩ := (hc k _ hxk).below HB.out
      obtain ⟨e2, e6⟩ := (hc' k _ hyk).below HB.out
      change fits wr ⟨b, off + k * 3, none⟩ 3 at e1
      change fits wr ⟨b', off' + k * 3, none⟩ 3 at e2
      change aggAt wr ⟨b, off + k * 3, none⟩ 3 = edB (xs.getD k ed0) at e5
      change aggAt wr ⟨b', off' + k * 3, none⟩ 3 = edB (ys.getD k ed0) at e6
      have e3 : b < wr.heap.size := Nat.lt_of_lt_of_le hlt HB.out.size
      have e4 : b' < wr.heap.size := Nat.lt_of_lt_of_le hlt' HB.out.size
      have HT := Lib.hid (show xs.getD k ed0 = ys.getD k ed0 → xs.take (k + 1) = ys.take (k + 1) from fun e => by rw [take_snocB ed0 xs k hk, take_snocB ed0 ys k hk', HA.out, e])
      have HN := Lib.hid (show ¬ xs.getD k ed0 = ys.getD k ed0 → (xs == ys) = false from fun e => beq_eq_false_iff_ne.2 (fun h => e (by rw [h])))
      clear hc hc' hxk hyk
      generalize xs.getD k ed0 = x at *
      generalize ys.getD k ed0 = y at *
      have i1 : (k : Int) < xs.length := by omega
      have i2 : (k : Int) < ys.length := by omega
      have hrun := run_neq_ed x y
      obtain ⟨X, hX⟩ : ∃ X, X = edB x := ⟨_, rfl⟩
      obtain ⟨Y, hY⟩ : ∃ Y, Y = edB y := ⟨_, rfl⟩
      rw [← hX] at e5 hrun
      rw [← hY] at e6 hrun
      clear hX hY
      by_cases hxy : x = y
      · have HT2 := Lib.hid (HT.out hxy)
        rw [(edEq_iff x y).2 hxy] at hrun
        clear hxy HT HN
        go_wp2_with fail
        refine wp_region_over (by kernel_rfl) (by kernel_rfl) ?_
        repeat (go_big_quiet_step (fail))
        refine wpQuiet_nil ?_
        rintro _ ⟨z0, rfl⟩
        clear e1 e2 e3 e4 e5 e6 hrun
        go_wp2
        go_roundg (gk - 1)
        case measure => have := HG.out; omega
        case rel => exact ⟨k + 1, by have := HG.out; omega, by go_num, HT2.out, HB.out.trans ((ov_below wr z0).mono HB.out.size)⟩
      · have HN2 := Lib.hid (HN.out hxy)
        rw [show edEq x y = false from by rw [← Bool.not_eq_true, edEq_iff]; exact hxy] at hrun
        clear HT HN hxy
        go_wp2_with fail
        refine wp_region_over (by kernel_rfl) (by kernel_rfl) ?_
        repeat (go_big_quiet_step (fail))
        refine wpQuiet_nil ?_
        rintro _ ⟨z0, rfl⟩
        clear e1 e2 e3 e4 e5 e6 hrun
        go_wp2
        go_ret
        exact ⟨ret_boolB HN2.out.symm, HB.out.trans ((ov_below wr z0).mono HB.out.size)⟩
    · have HE := Lib.hid (show k = xs.length by have := HG.out; omega)
      go_wp2
      go_ret
      have ha := HA.out
      rw [HE.out, List.take_length, HLEN.out, List.take_length] at ha
      exact ⟨ret_boolB (by rw [ha]; exact (beq_self_eq_true _).symm), HB.out⟩
end Go.Proofs.Ytipoifokcnbfnaa
