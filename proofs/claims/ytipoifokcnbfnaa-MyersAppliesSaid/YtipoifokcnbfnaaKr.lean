/- Cost. -/
import Derived.Test.YtipoifokcnbfnaaKq
namespace Go.Proofs.Ytipoifokcnbfnaa
open Go.RowKit
set_option linter.unusedVariables false

/-- What edits cost. -/
def costE : List Ed → Int
  | [] => 0
  | e :: E => max e.2.1 0 + cntN e.2.2 + costE E
theorem costE_snoc (E : List Ed) (e : Ed) : costE (E ++ [e]) = costE E + (max e.2.1 0 + cntN e.2.2) := by
  induction E with
  | nil => simp [costE]
  | cons x E ih => rw [List.cons_append, costE, costE, ih]; omega
theorem cntN_bd (l : List UInt8) : 0 ≤ cntN l ∧ cntN l ≤ l.length := by
  unfold cntN
  split
  · have h1 := congrArg List.length (parse_parsed l).eq
    have := encs_len (parse l).1
    simp at h1; omega
  · omega
/-- Edits that can be counted. -/
def Light (E : List Ed) : Prop := E.length ≤ 10000 ∧ ∀ e ∈ E, e.2.1 ≤ 1099511627776 ∧ e.2.2.length ≤ 40000
theorem costE_bd (E : List Ed) (h : ∀ e ∈ E, e.2.1 ≤ 1099511627776 ∧ e.2.2.length ≤ 40000) : 0 ≤ costE E ∧ costE E ≤ E.length * 1099511667776 := by
  induction E with
  | nil => simp [costE]
  | cons e E ih =>
    have h1 := ih (fun x hx => h x (by simp [hx]))
    have h2 := h e (by simp)
    have h3 := cntN_bd e.2.2
    simp only [costE, List.length_cons]
    omega

set_option maxHeartbeats 2000000 in
set_option maxRecDepth 100000 in
theorem costE_any (a : Option Addr) (cap : Nat) (E : List Ed) (w : World) (hl : Light E) (hin : edR.In w a E) :
    Calls Try.prog 16 #[.slice a E.length cap] w fun e w' => e = .returned (.int .i64 (costE E)) ∧ Below w.heap.size w w' := by
  have HX := Lib.hid hin
  have HL := Lib.hid hl
  have hEl : E.length ≤ 10000 := hl.1
  clear hin hl
  go_enter Try.func16, Try.ntmps16
  go_wp2_with fail
  go_loopg [3, 10] E.length (fun g v3 v10 wr => ∃ (k : Nat) (c : Int), g + k = E.length ∧ v10 = .int .i64 k ∧ v3 = .int .i64 c ∧ c = costE (E.take k) ∧ Below w.heap.size w wr)
  case atStart => exact ⟨0, 0, by omega, rfl, rfl, by simp [costE], Below.refl _ _⟩
  case round =>
    obtain ⟨k, c, hg, rfl, rfl, hc, hbw⟩ := hrel
    have HG := Lib.hid hg
    have HC := Lib.hid hc
    have HB := Lib.hid hbw
    clear hg hc hbw
    by_cases hk : k < E.length
    · rcases HX.out.2 with h | ⟨b, off, rfl, hlt, hcl⟩
      · subst h; simp at hk
      have hxk : E[k]? = some (E.getD k ed0) := by simp [List.getD_eq_getElem?_getD, hk]
      obtain ⟨e1, e5⟩ := (hcl k _ hxk).below HB.out
      change fits wr ⟨b, off + k * 3, none⟩ 3 at e1
      change aggAt wr ⟨b, off + k * 3, none⟩ 3 = edB (E.getD k ed0) at e5
      have e3 : b < wr.heap.size := Nat.lt_of_lt_of_le hlt HB.out.size
      have i1 : (k : Int) < E.length := by omega
      have HCN := Lib.hid (show costE (E.take (k + 1)) = costE (E.take k) + (max (E.getD k ed0).2.1 0 + cntN (E.getD k ed0).2.2) by rw [take_snocB ed0 E k hk, costE_snoc])
      have hb1 := costE_bd (E.take k) (fun e he => HL.out.2 e (List.mem_of_mem_take he))
      have hb2 := HL.out.2 _ (List.mem_of_getElem? hxk)
      have hb3 := cntN_bd (E.getD k ed0).2.2
      have hb4 : (E.take k).length ≤ 10000 := by simp; omega
      rw [← HC.out] at hb1 HCN
      clear hcl hxk
      obtain ⟨⟨x0, x1, x2⟩, hx⟩ : ∃ x, x = E.getD k ed0 := ⟨_, rfl⟩
      rw [← hx] at e5 HCN hb2 hb3
      simp only at HCN hb2 hb3
      have e6 : aggAt wr ⟨b, off + k * 3, none⟩ 3 = #[.int .i64 x0, .int .i64 x1, .string ⟨x2.toArray⟩] := e5
      have HCT := Lib.hid (fun w' => count_any ⟨x2.toArray⟩ (by unfold maxLen; show x2.toArray.size ≤ _; simp; omega) w')
      have f1 : IntKind.i64.wrap (max x1 0 + cntN x2) = max x1 0 + cntN x2 := IntWalk.i64_in _ (by omega)
      have f2 : IntKind.i64.wrap (c + (max x1 0 + cntN x2)) = c + (max x1 0 + cntN x2) := IntWalk.i64_in _ (by omega)
      clear e5 hx
      go_wp2_with fail
      refine (HCT.out _).mono ?_
      rintro e w2 ⟨rfl, hb2⟩
      have hnew := (MapKept.heap_alloc wr (.cells #[.int .i64 x0, .int .i64 x1, .string ⟨x2.toArray⟩] 42)).1
      have hb2' : Below (wr.alloc (.cells #[.int .i64 x0, .int .i64 x1, .string ⟨x2.toArray⟩] 42)).heap.size (wr.alloc (.cells #[.int .i64 x0, .int .i64 x1, .string ⟨x2.toArray⟩] 42)) w2 := hb2
      have hbl := (hb2'.block wr.heap.size (by simp)).trans hnew
      have c1 : w2.cell? ⟨wr.heap.size, 1, none⟩ = some (.int .i64 x1) := by rw [Lib.cell_of_heap hbl]; rfl
      have hsz : wr.heap.size < w2.heap.size := (Array.getElem?_eq_some_iff.1 hbl).1
      have HB2 := Lib.hid (HB.out.trans ((((Below.refl wr.heap.size wr).alloc (Nat.le_refl _) (.cells #[.int .i64 x0, .int .i64 x1, .string ⟨x2.toArray⟩] 42)).trans (hb2'.mono (by simp))).mono HB.out.size))
      obtain ⟨n2, hn2⟩ : ∃ n2, n2 = cntN x2 := ⟨_, rfl⟩
      rw [← hn2] at f1 f2 HCN
      have HN2 := Lib.hid hn2
      rw [show cntN (⟨x2.toArray⟩ : ByteArray).data.toList = n2 from hn2.symm]
      clear hb2 hb2' hnew hbl hn2 e1 e3 e6
      go_wp2
      go_roundg (gk - 1)
      case measure => have := HG.out; omega
      case rel => exact ⟨k + 1, _, by have := HG.out; omega, by go_num, rfl, HCN.out.symm, HB2.out⟩
    · have HE := Lib.hid (show costE (E.take k) = costE E by rw [List.take_of_length_le (by omega)])
      go_wp2
      go_ret
      exact ⟨by rw [HC.out, HE.out]; rfl, HB.out⟩
end Go.Proofs.Ytipoifokcnbfnaa
