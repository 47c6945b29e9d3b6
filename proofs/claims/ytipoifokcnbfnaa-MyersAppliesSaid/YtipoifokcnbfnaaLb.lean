/- Apply and the reference's Apply, whatever the bytes; what an argument of edits holds. -/
import Derived.Test.YtipoifokcnbfnaaLa
import Derived.Test.YtipoifokcnbfnaaPh
import Derived.Deep.Strs
namespace Go.Proofs.Ytipoifokcnbfnaa
open Go.RowKit Go.WideShapes Go.ChangeShapes Go.ChangeMaps Go.Deep
set_option linter.unusedVariables false

theorem applyL_five {s : List UInt8} {E : List Ed} (h : chkE s = 5) : applyL s E = ([], 5) := by
  unfold applyL; rw [if_pos (.inl (by rw [h]; decide))]
set_option maxHeartbeats 1000000 in
set_option maxRecDepth 100000 in
theorem apply_none (s : ByteArray) (hs : s.size ≤ 4096) (v : Value) (w : World) (h5 : chkE s.data.toList = 5) :
    Calls Try.prog 18 #[.string s, v] w fun e w' => e = .returned (.tuple #[.string ⟨#[]⟩, .int .i64 5]) ∧ Below w.heap.size w w' := by
  have H5 := Lib.hid h5
  have H1 := Lib.hid (runes_any s (by unfold maxLen; omega) (by omega) w)
  clear h5
  go_enter Try.func18, Try.ntmps18
  go_wp2_with fail
  refine H1.out.mono ?_
  rintro e w1 ⟨v1, rfl, hr1, hb1⟩
  rw [H5.out]
  have HB1 := Lib.hid hb1
  clear hr1 hb1
  go_wp2
  go_ret2
  exact ⟨rfl, HB1.out⟩
theorem apply_any (s : ByteArray) (hs : s.size ≤ 4096) (a : Option Addr) (cap : Nat) (E : List Ed) (w : World) (hEl : E.length ≤ 10000) (hEt : ∀ e ∈ E, e.2.2.length ≤ 40000) (hin : edR.In w a E) :
    Calls Try.prog 18 #[.string s, .slice a E.length cap] w fun e w' => e = .returned (.tuple #[.string ⟨(applyL s.data.toList E).1.toArray⟩, .int .i64 (applyL s.data.toList E).2]) ∧ Below w.heap.size w w' := by
  rcases chkE_cases s.data.toList with h | h
  · exact apply_text s hs a cap E w hEl hEt hin h
  · have := apply_none s hs (.slice a E.length cap) w h
    rw [applyL_five h]
    exact this
set_option maxHeartbeats 1000000 in
set_option maxRecDepth 100000 in
theorem rapply_none (s : ByteArray) (hs : s.size ≤ 4096) (v : Value) (w : World) (h5 : chkE s.data.toList = 5) :
    Calls Try.prog 19 #[.string s, v] w fun e w' => e = .returned (.tuple #[.string ⟨#[]⟩, .int .i64 5]) ∧ Below w.heap.size w w' := by
  have H5 := Lib.hid h5
  have H1 := Lib.hid (rrunes_any s (by unfold maxLen; omega) (by omega) w)
  clear h5
  go_enter Try.func19, Try.ntmps19
  go_wp2_with fail
  refine H1.out.mono ?_
  rintro e w1 ⟨v1, rfl, hr1, hb1⟩
  rw [H5.out]
  have HB1 := Lib.hid hb1
  clear hr1 hb1
  go_wp2
  go_ret2
  exact ⟨rfl, HB1.out⟩
theorem rapply_any (s : ByteArray) (hs : s.size ≤ 4096) (a : Option Addr) (cap : Nat) (E : List Ed) (w : World) (hEl : E.length ≤ 10000) (hEt : ∀ e ∈ E, e.2.2.length ≤ 40000) (hin : edR.In w a E) :
    Calls Try.prog 19 #[.string s, .slice a E.length cap] w fun e w' => e = .returned (.tuple #[.string ⟨(applyL s.data.toList E).1.toArray⟩, .int .i64 (applyL s.data.toList E).2]) ∧ Below w.heap.size w w' := by
  rcases chkE_cases s.data.toList with h | h
  · exact rapply_text s hs a cap E w hEl hEt hin h
  · have := rapply_none s hs (.slice a E.length cap) w h
    rw [applyL_five h]
    exact this

theorem trod_i64 {H : Type} {enc : TypeId × Value → H} {W : World} {fuel : Nat} {l : List Value} {x : DataW H × List MemPlace} (hx : DataW.trod enc Try.prog W 0 (fun _ => true) true fuel 3 l = some x) : ∃ n, l = [.int .i64 n] ∧ (Lit.int .i64 n).wf = true := by
  cases fuel with
  | zero => simp [DataW.trod] at hx
  | succ m =>
    unfold DataW.trod at hx
    rw [Try.underlying3] at hx
    split at hx <;> simp_all
theorem trod_str {H : Type} {enc : TypeId × Value → H} {W : World} {fuel : Nat} {l : List Value} {x : DataW H × List MemPlace} (hx : DataW.trod enc Try.prog W 0 (fun _ => true) true fuel 9 l = some x) : ∃ s : ByteArray, l = [.string s] := by
  cases fuel with
  | zero => simp [DataW.trod] at hx
  | succ m =>
    unfold DataW.trod at hx
    rw [Try.underlying9] at hx
    split at hx <;> simp_all
theorem trod_ed {H : Type} {enc : TypeId × Value → H} {W : World} {fuel : Nat} {cs : List Value} {x : DataW H × List MemPlace}
    (h : DataW.trod enc Try.prog W 0 (fun _ => true) true fuel 42 cs = some x) : ∃ e : Ed, cs = (edB e).toList ∧ (Lit.int .i64 e.1).wf = true ∧ (Lit.int .i64 e.2.1).wf = true := by
  obtain ⟨y0, y1, y2, n, _, hl, h0, h1, h2⟩ := trod_struct3 Try.underlying42 h
  obtain ⟨t, e0, w0⟩ := trod_i64 h0
  obtain ⟨i, e1, w1⟩ := trod_i64 h1
  obtain ⟨s, e2⟩ := trod_str h2
  refine ⟨(t, i, s.data.toList), ?_, w0, w1⟩
  have c3 : Try.prog.cellsOf 3 = 1 := by kernel_rfl
  have c9 : Try.prog.cellsOf 9 = 1 := by kernel_rfl
  have c42 : Try.prog.cellsOf 42 = 3 := by kernel_rfl
  rw [c42] at hl
  simp only [c3, c9] at e0 e1 e2
  have e3 : (edB (t, i, s.data.toList)).toList = [.int .i64 t, .int .i64 i, .string s] := by
    unfold edB
    simp
  rw [e3]
  match cs, hl with
  | [a, b, c], _ => simp at e0 e1 e2; rw [e0, e1, e2]
theorem reads_eds {H : Type} {enc : TypeId × Value → H} {W : World} {v : Value} {d : DataW H} {p : List MemPlace} (h : DataW.Trod enc Try.prog W 0 (fun _ => true) true 31 v d p) (hok : ∃ a len cap, v = .slice a len cap) :
    ∃ xs, edR.Sl W v xs := Rec.reads (R := edR) Try.underlying31 (by kernel_rfl) (fun fuel cs y hy => by
      obtain ⟨x, hx, _⟩ := trod_ed hy
      exact ⟨x, trivial, hx⟩) h hok
end Go.Proofs.Ytipoifokcnbfnaa
