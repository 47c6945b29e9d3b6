/- Ints; Pairs. -/
import Derived.Test.YtkapidcgonjbaaaPb
import Derived.Laws.StructEq
import Derived.ChangeKeysEq
namespace Go.Proofs.Ytkapidcgonjbaaa
open Go.RowKit
set_option linter.unusedVariables false
theorem pc0 (a b : Value) : (#[a, b] : Array Value)[0]? = some a := rfl
theorem pc1 (a b : Value) : (#[a, b] : Array Value)[1]? = some b := rfl
theorem run_equalIn_ij (d : Nat) (x y : Int × Int) (w : World) :
    (Op.equalIn (d + 2) 36 (.agg (ijR.enc x).toArray) (.agg (ijR.enc y).toArray)).run Try.prog w = .ok (x == y) w := by
  have hc : Try.prog.cellsOf 3 = 1 := by kernel_rfl
  have hp : Try.prog.plainKey 3 = true := by kernel_rfl
  obtain ⟨i, hi⟩ := info_of_underlying Try.underlying3
  obtain ⟨a, b⟩ := x
  obtain ⟨a', b'⟩ := y
  have h0 : ((a, b) == (a', b')) = ((a == a') && (b == b')) := rfl
  rw [run_equalIn_array w (d + 1) _ _ Try.underlying36 hi, hc, h0]
  show (Op.eqItems (d + 1) 3 1 #[.int .i64 a, .int .i64 b] #[.int .i64 a', .int .i64 b'] [0, 1]).run Try.prog w = _
  have p0 := run_part_plain w hp (pc0 (.int .i64 a) (.int .i64 b))
  have p1 := run_part_plain w hp (pc1 (.int .i64 a) (.int .i64 b))
  have q0 := run_part_plain w hp (pc0 (.int .i64 a') (.int .i64 b'))
  have q1 := run_part_plain w hp (pc1 (.int .i64 a') (.int .i64 b'))
  have r0 := run_equalIn_int w d 3 .i64 .i64 a a' Try.underlying3
  have r1 := run_equalIn_int w d 3 .i64 .i64 b b' Try.underlying3
  generalize (a == a') = u at *
  generalize (b == b') = v at *
  cases u <;> cases v <;> simp [Op.eqItems, p0, p1, q0, q1, r0, r1]
theorem run_neq_ij (x y : Int × Int) (w : World) :
    (binOp .neq 36 (.agg (ijR.enc x).toArray) (.agg (ijR.enc y).toArray)).run Try.prog w = .ok (.bool (!(x == y))) w := by
  rw [run_neq_struct, show (10000 : Nat) = 9998 + 2 from rfl, run_equalIn_ij 9998 x y w]; rfl
@[go_sem ↓] theorem run_neq_ij' (a b a' b' : Int) (w : World) :
    (binOp .neq 36 (.agg #[.int .i64 a, .int .i64 b]) (.agg #[.int .i64 a', .int .i64 b'])).run Try.prog w = .ok (.bool (!((a, b) == (a', b')))) w := run_neq_ij (a, b) (a', b') w
@[go_sem ↓] theorem load36 (f : Operand → Value) (x : Operand) (dst : Option Tmp) (ty' : TypeId) (pos : String) (after : Array Edge) (guard : Option (Nat × Bool)) (w : World)
    (hp : isPtr (f x) = true) (hf : fits w (addrOf (f x)) 2) :
    (execOp f ⟨dst, .load 36 x, ty', pos, after, guard⟩).run Try.prog w = .ok (.value (.agg (aggAt w (addrOf (f x)) 2))) w :=
  run_exec_load Try.underlying36 rfl (by kernel_rfl) f x dst ty' pos after guard w hp hf

set_option maxHeartbeats 1000000 in
set_option maxRecDepth 100000 in
theorem ints_any (a a' : Option Addr) (cap cap' : Nat) (xs ys : List Int) (w : World) (hm : xs.length ≤ 1000000) (hm' : ys.length ≤ 1000000) (hin : intR.In w a xs) (hin' : intR.In w a' ys) :
    Calls Try.prog 27 #[.slice a xs.length cap, .slice a' ys.length cap'] w fun e w' => e = .returned (.bool (xs == ys)) ∧ Below w.heap.size w w' := by
  have HX := Lib.hid hin
  have HY := Lib.hid hin'
  clear hin hin'
  by_cases hlen : xs.length = ys.length
  case neg =>
    have hz : ((xs.length : Int) != (ys.length : Int)) = true := by simp; omega
    have HZ := Lib.hid (show (xs == ys) = false from beq_eq_false_iff_ne.2 (fun e => hlen (by rw [e])))
    go_enter Try.func27, Try.ntmps27
    go_wp2
    go_ret
    exact ⟨ret_bool HZ.out.symm, Below.refl _ _⟩
  have HLEN := Lib.hid hlen
  have hz : ((xs.length : Int) = (ys.length : Int)) := by omega
  clear hlen
  go_enter Try.func27, Try.ntmps27
  go_wp2_with fail
  go_loopg [5] xs.length (fun g i wr => ∃ k : Nat, g + k = xs.length ∧ i = .int .i64 k ∧ xs.take k = ys.take k ∧ Below w.heap.size w wr)
  case atStart => exact ⟨0, by omega, rfl, by simp, Below.refl _ _⟩
  case round =>
    obtain ⟨k, hg, rfl, hall, hbw⟩ := hrel
    have HG := Lib.hid hg
    have HA := Lib.hid hall
    have HB := Lib.hid hbw
    clear hg hall hbw
    by_cases hk : k < xs.length
    · have hk' : k < ys.length := by have := HLEN.out; omega
      rcases HX.out.2 with h | ⟨b, off, rfl, hlt, hc⟩
      · subst h; simp at hk
      rcases HY.out.2 with h | ⟨b', off', rfl, hlt', hc'⟩
      · subst h; simp at hk'
      have hxk : xs[k]? = some (xs.getD k 0) := by simp [List.getD_eq_getElem?_getD, hk]
      have hyk : ys[k]? = some (ys.getD k 0) := by simp [List.getD_eq_getElem?_getD, hk']
      have e1 := int_cell ((hc k _ hxk).below HB.out)
      have e2 := int_cell ((hc' k _ hyk).below HB.out)
      have e3 : b < wr.heap.size := Nat.lt_of_lt_of_le hlt HB.out.size
      have e4 : b' < wr.heap.size := Nat.lt_of_lt_of_le hlt' HB.out.size
      have HT := Lib.hid (show xs.getD k 0 = ys.getD k 0 → xs.take (k + 1) = ys.take (k + 1) from fun e => by rw [take_snoc 0 xs k hk, take_snoc 0 ys k hk', HA.out, e])
      have HN := Lib.hid (show ¬ xs.getD k 0 = ys.getD k 0 → (xs == ys) = false from fun e => beq_eq_false_iff_ne.2 (fun h => e (by rw [h])))
      clear hc hc' hxk hyk
      generalize xs.getD k 0 = x at *
      generalize ys.getD k 0 = y at *
      have i1 : (k : Int) < xs.length := by omega
      have i2 : (k : Int) < ys.length := by omega
      by_cases hxy : x = y
      · have HT2 := Lib.hid (HT.out hxy)
        subst hxy
        clear HT HN
        go_wp2_with fail
        refine wp_region_over (by kernel_rfl) (by kernel_rfl) ?_
        repeat (go_big_quiet_step (fail))
        refine wpQuiet_nil ?_
        rintro _ ⟨x0, rfl⟩
        clear e1 e2 e3 e4
        go_wp2
        go_roundg (gk - 1)
        case measure => have := HG.out; omega
        case rel => exact ⟨k + 1, by have := HG.out; omega, by go_num, HT2.out, HB.out.trans ((ov_below wr x0).mono HB.out.size)⟩
      · have HN2 := Lib.hid (HN.out hxy)
        have j1 : (x != y) = true := by simpa using hxy
        clear HT HN hxy
        go_wp2_with fail
        refine wp_region_over (by kernel_rfl) (by kernel_rfl) ?_
        repeat (go_big_quiet_step (fail))
        refine wpQuiet_nil ?_
        rintro _ ⟨x0, rfl⟩
        clear e1 e2 e3 e4
        go_wp2
        go_ret
        exact ⟨ret_bool HN2.out.symm, HB.out.trans ((ov_below wr x0).mono HB.out.size)⟩
    · have HE := Lib.hid (show k = xs.length by have := HG.out; omega)
      go_wp2
      go_ret
      have ha := HA.out
      rw [HE.out, List.take_length, HLEN.out, List.take_length] at ha
      exact ⟨ret_bool (by rw [ha]; exact (beq_self_eq_true _).symm), HB.out⟩

set_option maxHeartbeats 1000000 in
set_option maxRecDepth 100000 in
theorem pairs_any (a a' : Option Addr) (cap cap' : Nat) (xs ys : List (Int × Int)) (w : World) (hm : xs.length ≤ 1000000) (hm' : ys.length ≤ 1000000) (hin : ijR.In w a xs) (hin' : ijR.In w a' ys) :
    Calls Try.prog 18 #[.slice a xs.length cap, .slice a' ys.length cap'] w fun e w' => e = .returned (.bool (xs == ys)) ∧ Below w.heap.size w w' := by
  have HX := Lib.hid hin
  have HY := Lib.hid hin'
  clear hin hin'
  by_cases hlen : xs.length = ys.length
  case neg =>
    have hz : ((xs.length : Int) != (ys.length : Int)) = true := by simp; omega
    have HZ := Lib.hid (show (xs == ys) = false from beq_eq_false_iff_ne.2 (fun e => hlen (by rw [e])))
    go_enter Try.func18, Try.ntmps18
    go_wp2
    go_ret
    exact ⟨ret_bool HZ.out.symm, Below.refl _ _⟩
  have HLEN := Lib.hid hlen
  have hz : ((xs.length : Int) = (ys.length : Int)) := by omega
  clear hlen
  go_enter Try.func18, Try.ntmps18
  go_wp2_with fail
  go_loopg [5] xs.length (fun g i wr => ∃ k : Nat, g + k = xs.length ∧ i = .int .i64 k ∧ xs.take k = ys.take k ∧ Below w.heap.size w wr)
  case atStart => exact ⟨0, by omega, rfl, by simp, Below.refl _ _⟩
  case round =>
    obtain ⟨k, hg, rfl, hall, hbw⟩ := hrel
    have HG := Lib.hid hg
    have HA := Lib.hid hall
    have HB := Lib.hid hbw
    clear hg hall hbw
    by_cases hk : k < xs.length
    · have hk' : k < ys.length := by have := HLEN.out; omega
      rcases HX.out.2 with h | ⟨b, off, rfl, hlt, hc⟩
      · subst h; simp at hk
      rcases HY.out.2 with h | ⟨b', off', rfl, hlt', hc'⟩
      · subst h; simp at hk'
      have hxk : xs[k]? = some (xs.getD k (0, 0)) := by simp [List.getD_eq_getElem?_getD, hk]
      have hyk : ys[k]? = some (ys.getD k (0, 0)) := by simp [List.getD_eq_getElem?_getD, hk']
      obtain ⟨e1, e5⟩ := (hc k _ hxk).below HB.out
      obtain ⟨e2, e6⟩ := (hc' k _ hyk).below HB.out
      change fits wr ⟨b, off + k * 2, none⟩ 2 at e1
      change fits wr ⟨b', off' + k * 2, none⟩ 2 at e2
      change aggAt wr ⟨b, off + k * 2, none⟩ 2 = _ at e5
      change aggAt wr ⟨b', off' + k * 2, none⟩ 2 = _ at e6
      have e3 : b < wr.heap.size := Nat.lt_of_lt_of_le hlt HB.out.size
      have e4 : b' < wr.heap.size := Nat.lt_of_lt_of_le hlt' HB.out.size
      have HT := Lib.hid (show xs.getD k (0, 0) = ys.getD k (0, 0) → xs.take (k + 1) = ys.take (k + 1) from fun e => by rw [take_snoc (0, 0) xs k hk, take_snoc (0, 0) ys k hk', HA.out, e])
      have HN := Lib.hid (show ¬ xs.getD k (0, 0) = ys.getD k (0, 0) → (xs == ys) = false from fun e => beq_eq_false_iff_ne.2 (fun h => e (by rw [h])))
      clear hc hc' hxk hyk
      generalize xs.getD k (0, 0) = x at *
      generalize ys.getD k (0, 0) = y at *
      obtain ⟨x0, x1⟩ := x
      obtain ⟨y0, y1⟩ := y
      simp only [ijR] at e5 e6
      have i1 : (k : Int) < xs.length := by omega
      have i2 : (k : Int) < ys.length := by omega
      by_cases hxy : (x0, x1) = (y0, y1)
      · have HT2 := Lib.hid (HT.out hxy)
        have j0 : ((x0, x1) == (y0, y1)) = true := by rw [hxy]; exact beq_self_eq_true _
        clear hxy
        clear HT HN
        go_wp2_with fail
        refine wp_region_over (by kernel_rfl) (by kernel_rfl) ?_
        repeat (go_big_quiet_step (fail))
        refine wpQuiet_nil ?_
        rintro _ ⟨z0, rfl⟩
        clear e1 e2 e3 e4 e5 e6
        go_wp2
        go_roundg (gk - 1)
        case measure => have := HG.out; omega
        case rel => exact ⟨k + 1, by have := HG.out; omega, by go_num, HT2.out, HB.out.trans ((ov_below wr z0).mono HB.out.size)⟩
      · have HN2 := Lib.hid (HN.out hxy)
        have j1 : ((x0, x1) == (y0, y1)) = false := beq_eq_false_iff_ne.2 hxy
        clear HT HN hxy
        go_wp2_with fail
        refine wp_region_over (by kernel_rfl) (by kernel_rfl) ?_
        repeat (go_big_quiet_step (fail))
        refine wpQuiet_nil ?_
        rintro _ ⟨z0, rfl⟩
        clear e1 e2 e3 e4 e5 e6
        go_wp2
        go_ret
        exact ⟨ret_bool HN2.out.symm, HB.out.trans ((ov_below wr z0).mono HB.out.size)⟩
    · have HE := Lib.hid (show k = xs.length by have := HG.out; omega)
      go_wp2
      go_ret
      have ha := HA.out
      rw [HE.out, List.take_length, HLEN.out, List.take_length] at ha
      exact ⟨ret_bool (by rw [ha]; exact (beq_self_eq_true _).symm), HB.out⟩

end Go.Proofs.Ytkapidcgonjbaaa
