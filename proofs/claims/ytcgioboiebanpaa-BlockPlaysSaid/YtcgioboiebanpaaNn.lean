/- lives: the closure. -/
import Derived.Test.YtcgioboiebanpaaNj
namespace Go.Proofs.Ytcgioboiebanpaa
open Go.RowKit
set_option linter.unusedVariables false

set_option maxHeartbeats 1000000 in
set_option maxRecDepth 100000 in
theorem lives_any (d : Option Addr) (w : World) : Calls Try.prog 30 #[.pointer d] w fun e w' =>
    e = .returned (.func (.func 50) #[] #[.pointer (some ⟨w.heap.size, 0, none⟩)]) ∧ w' = w.alloc (.cells #[.pointer d] 30) := by
  go_enter Try.func30, Try.ntmps30
  go_wp2
  go_ret
  exact ⟨by simp, rfl⟩
end Go.Proofs.Ytcgioboiebanpaa

namespace Go.Proofs.Ytcgioboiebanpaa
open Go.RowKit
set_option linter.unusedVariables false

/-- An act: kind, key, at, text, n. -/
abbrev AV := Int × (Int × List UInt8 × Int) × (Int × List UInt8 × Int) × ByteArray × Int
def actL (x : AV) : List Value := [.int .i64 x.1] ++ (keyB x.2.1.1 x.2.1.2.1 x.2.1.2.2).toList ++ (keyB x.2.2.1.1 x.2.2.1.2.1 x.2.2.1.2.2).toList ++ [.string x.2.2.2.1, .int .i64 x.2.2.2.2]
theorem keyL_len (t : Int) (c : List UInt8) (i : Int) (h : c.length = 32) : (keyB t c i).toList.length = 34 := by rw [Array.length_toList, keyB_size, h]
def actR : Rec AV where
  enc x := actL x
  sz := 71
  ok x := x.2.1.2.1.length = 32 ∧ x.2.2.1.2.1.length = 32
  pos := by decide
  len x h := by unfold actL; simp only [List.length_append, List.length_cons, List.length_nil, keyL_len _ _ _ h.1, keyL_len _ _ _ h.2]
  one x h u hu := by
    unfold actL at hu
    simp only [List.mem_append, List.mem_cons, List.not_mem_nil, or_false] at hu
    rcases hu with ((rfl | hu) | hu) | rfl | rfl
    · rfl
    · exact key_one _ _ _ u hu
    · exact key_one _ _ _ u hu
    · rfl
    · rfl
theorem act_text {w : World} {b o : Nat} {x : AV} (hok : actR.ok x) (h : actR.At w ⟨b, o, none⟩ x) : fits w ⟨b, o, none⟩ 71 ∧ w.cell? ⟨b, o + 69, none⟩ = some (.string x.2.2.2.1) := by
  obtain ⟨h1, h2⟩ := h
  have h1 : fits w ⟨b, o, none⟩ 71 := h1
  have h3 : (aggAt w ⟨b, o, none⟩ 71) = (actL x).toArray := h2
  refine ⟨h1, ?_⟩
  rw [aggAt_get h1 (j := 69) (by decide), h3]
  unfold actL
  rw [List.getElem?_toArray, List.getElem?_append_right (by simp only [List.length_append, List.length_cons, List.length_nil, keyL_len _ _ _ hok.1, keyL_len _ _ _ hok.2]; decide)]
  simp only [List.length_append, List.length_cons, List.length_nil, keyL_len _ _ _ hok.1, keyL_len _ _ _ hok.2]
  rfl
end Go.Proofs.Ytcgioboiebanpaa

namespace Go.Proofs.Ytcgioboiebanpaa
open Go.RowKit
set_option linter.unusedVariables false

/-- What light says. -/
def lightL (xs : List AV) (most : Int) : Bool := decide ((xs.length : Int) ≤ most) && xs.all fun x => decide (x.2.2.2.1.size ≤ 20)
set_option maxHeartbeats 2000000 in
set_option maxRecDepth 100000 in
theorem light_any (p : Option Addr) (c : Nat) (xs : List AV) (most : Int) (w : World) (hm : most ≤ 1000) (hin : actR.In w p xs) :
    Calls Try.prog 9 #[.slice p xs.length c, .int .i64 most] w fun e w' => e = .returned (.bool (lightL xs most)) ∧ Below w.heap.size w w' := by
  have HIN := Lib.hid hin
  have HM := Lib.hid hm
  clear hin hm
  go_enter Try.func9, Try.ntmps9
  by_cases hlen : most < xs.length
  · have HE := Lib.hid (show lightL xs most = false by unfold lightL; rw [decide_eq_false (by omega)]; rfl)
    go_wp2
    go_ret
    exact ⟨ret_bool HE.out.symm, Below.refl _ _⟩
  have HL := Lib.hid (show (xs.length : Int) ≤ most by omega)
  have hx6 : xs.length ≤ 1000000 := by have := HM.out; omega
  go_wp2_with fail
  go_loopg [5] xs.length (fun g v wr => ∃ k : Nat, g + k = xs.length ∧ v = .int .i64 k ∧ (xs.take k).all (fun x => decide (x.2.2.2.1.size ≤ 20)) = true ∧ w = wr)
  case atStart => exact ⟨0, by omega, rfl, by simp, rfl⟩
  case round =>
    obtain ⟨k, hg, rfl, hall, rfl⟩ := hrel
    have HG := Lib.hid hg
    have HA := Lib.hid hall
    clear hg hall
    by_cases hk : k < xs.length
    · have HK := Lib.hid hk
      rcases HIN.out.2 with h | ⟨b, off, rfl, hlt, hc⟩
      · rw [h] at hk; simp at hk
      have hxx : xs[k]? = some xs[k] := List.getElem?_eq_getElem hk
      obtain ⟨f1, e1⟩ := act_text (HIN.out.1 _ (List.getElem_mem hk)) (hc k _ hxx)
      have HMM := Lib.hid (List.getElem_mem hk)
      have HTK := Lib.hid (show xs.take (k + 1) = xs.take k ++ [xs[k]] from List.take_succ_eq_append_getElem hk)
      generalize xs[k] = x at *
      have hsz : actR.sz = 71 := rfl
      rw [hsz] at e1 f1
      have i1 : (k : Int) < xs.length := by omega
      clear hc hxx hlt f1
      by_cases h20 : x.2.2.2.1.size ≤ 20
      · have HT := Lib.hid (show (xs.take (k + 1)).all (fun x => decide (x.2.2.2.1.size ≤ 20)) = true by rw [HTK.out, List.all_append, HA.out]; simp [h20])
        obtain ⟨x1, x2, x3, x4, x5⟩ := x
        simp only at e1 h20
        have i2 : ¬ (20 : Int) < x4.size := by omega
        go_wp2
        go_roundg (gk - 1)
        case measure => have := HG.out; have := HK.out; omega
        case rel => exact ⟨k + 1, by have := HG.out; have := HK.out; omega, by go_num, HT.out, rfl⟩
      · have HE := Lib.hid (show lightL xs most = false by
          unfold lightL
          rw [Bool.and_eq_false_iff]
          exact .inr (List.all_eq_false.2 ⟨x, HMM.out, by simpa using h20⟩))
        obtain ⟨x1, x2, x3, x4, x5⟩ := x
        simp only at e1 h20
        have i2 : (20 : Int) < x4.size := by omega
        go_wp2
        go_ret
        exact ⟨ret_bool HE.out.symm, Below.refl _ _⟩
    · have i1 : ¬ (k : Int) < xs.length := by omega
      have HE := Lib.hid (show lightL xs most = true by
        have h9 := HA.out
        rw [List.take_of_length_le (by omega)] at h9
        unfold lightL
        rw [decide_eq_true HL.out, h9]; rfl)
      go_wp2
      go_ret
      exact ⟨ret_bool HE.out.symm, Below.refl _ _⟩
end Go.Proofs.Ytcgioboiebanpaa

namespace Go.Proofs.Ytcgioboiebanpaa
open Go.RowKit
set_option linter.unusedVariables false

theorem rn64 : runR.Ty Try.prog 64 70 80 := ⟨Try.underlying64, by kernel_rfl, by kernel_rfl, by decide⟩
/-- The run that holds nothing. -/
def run0 : RV := ((0, List.replicate 32 0, 0), (none, 0, 0), false)
@[go_sem ↓] theorem bld70_0 (f : Operand → Value) (dst : Option Tmp) (ty' : TypeId) (pos : String) (after : Array Edge) (guard : Option (Nat × Bool)) (w : World) :
    (execOp f ⟨dst, .build 70 #[], ty', pos, after, guard⟩).run Try.prog w = .ok (.value (.agg (runB run0))) w := run_exec_build f #[] dst ty' pos after guard w (by
      have h : Try.prog.built 70 [] = some (runB run0) := by kernel_rfl
      simpa using h)
def rvOk : Value → Prop := fun v => ∃ x : RV, v = .agg (runB x) ∧ x.1.2.1.length = 32
@[go_sem] theorem rvOk_mk (x : RV) (h : x.1.2.1.length = 32) : rvOk (.agg (runB x)) := ⟨x, rfl, h⟩
@[go_sem ↓] theorem build64 (f : Operand → Value) (y : Operand) (dst : Option Tmp) (ty' : TypeId) (pos : String) (after : Array Edge) (guard : Option (Nat × Bool)) (w : World) (hy : rvOk (f y)) :
    (execOp f ⟨dst, .buildSlice 64 1 #[(0, y)], ty', pos, after, guard⟩).run Try.prog w = .ok (.value (.slice (some ⟨w.heap.size, 0, none⟩) 1 1)) (w.alloc (.cells (aggOf (f y)) 70)) := by
  obtain ⟨x, hx, hl⟩ := hy
  have := Rec.run_lit rn64 w 1 [(f y, x)] (#[(0, y)].map fun (i, x) => (i, f x)) (by simp [Rec.parts]) rfl (by decide) (by decide) (by
    intro z hz; simp at hz; subst hz; exact ⟨hl, by rw [hx]; simp [runR, Value.cells]⟩)
  unfold execOp
  simp only [Sem.run_bind, this, Result.andThen_ok, hx, aggOf_agg]
  simp [Rec.cells, runR]
end Go.Proofs.Ytcgioboiebanpaa
