/- The reference's Cost. -/
import Derived.Test.YtipoifokcnbfnaaKu
namespace Go.Proofs.Ytipoifokcnbfnaa
open Go.RowKit
set_option linter.unusedVariables false

theorem runesL_cnt (l : List UInt8) : ((runesL l).length : Int) = cntN l := by
  unfold runesL cntN
  split <;> rfl
theorem owns_slice {w : World} {b : Nat} {e : TypeId} {size : Nat} {v : Value} {n : Nat} {xs : List Value} (h : w.ownsRow b e size v n xs) : ∃ p c, v = .slice p n c := by
  rcases h.2 with ⟨rfl, h0⟩ | ⟨g, cap, cur, hv, _⟩
  · exact ⟨none, 0, by rw [h0]⟩
  · exact ⟨_, _, hv⟩
set_option maxHeartbeats 2000000 in
set_option maxRecDepth 100000 in
theorem rcostE_any (a : Option Addr) (cap : Nat) (E : List Ed) (w : World) (hl : Light E) (hin : edR.In w a E) :
    Calls Try.prog 20 #[.slice a E.length cap] w fun e w' => e = .returned (.int .i64 (costE E)) ∧ Below w.heap.size w w' := by
  have HX := Lib.hid hin
  have HL := Lib.hid hl
  have hEl : E.length ≤ 10000 := hl.1
  clear hin hl
  go_enter Try.func20, Try.ntmps20
  go_wp2_with fail
  go_loopg [3, 4] E.length (fun g v3 v4 wr => ∃ (k : Nat) (c : Int), g + k = E.length ∧ v4 = .int .i64 k ∧ v3 = .int .i64 c ∧ c = costE (E.take k) ∧ Below w.heap.size w wr)
  case atStart => exact ⟨0, 0, by omega, rfl, rfl, by simp [costE], Below.refl _ _⟩
  case round =>
    obtain ⟨k, c, hg, rfl, rfl, hc, hbw⟩ := hrel
    have HG := Lib.hid hg
    have HC := Lib.hid hc
    have HB := Lib.hid hbw
    clear hg hc hbw
    by_cases hk : k < E.length
    · rcases HX.out.2 with h | ⟨b, off, rfl, hlt, hcl⟩
      · subst h; simp at hk
      have hxk : E[k]? = some (E.getD k ed0) := by simp [List.getD_eq_getElem?_getD, hk]
      obtain ⟨e1, e5⟩ := (hcl k _ hxk).below HB.out
      change fits wr ⟨b, off + k * 3, none⟩ 3 at e1
      change aggAt wr ⟨b, off + k * 3, none⟩ 3 = edB (E.getD k ed0) at e5
      have e3 : b < wr.heap.size := Nat.lt_of_lt_of_le hlt HB.out.size
      have i1 : (k : Int) < E.length := by omega
      have HCN := Lib.hid (show costE (E.take (k + 1)) = costE (E.take k) + (max (E.getD k ed0).2.1 0 + cntN (E.getD k ed0).2.2) by rw [take_snocB ed0 E k hk, costE_snoc])
      have hb1 := costE_bd (E.take k) (fun e he => HL.out.2 e (List.mem_of_mem_take he))
      have hb2 := HL.out.2 _ (List.mem_of_getElem? hxk)
      have hb3 := cntN_bd (E.getD k ed0).2.2
      have hb4 : (E.take k).length ≤ 10000 := by simp; omega
      rw [← HC.out] at hb1 HCN
      clear hcl hxk
      obtain ⟨⟨x0, x1, x2⟩, hx⟩ : ∃ x, x = E.getD k ed0 := ⟨_, rfl⟩
      rw [← hx] at e5 HCN hb2 hb3
      simp only at HCN hb2 hb3
      have q1 := aggAt_get (j := 1) e1 (by decide)
      have q2 := aggAt_get (j := 2) e1 (by decide)
      rw [e5] at q1 q2
      have c1 : wr.cell? ⟨b, off + k * 3 + 1, none⟩ = some (.int .i64 x1) := by simpa [edB] using q1
      have c2 : wr.cell? ⟨b, off + k * 3 + 2, none⟩ = some (.string ⟨x2.toArray⟩) := by simpa [edB] using q2
      have HCT := Lib.hid (fun w' => rrunes_any ⟨x2.toArray⟩ (by unfold maxLen; show x2.toArray.size ≤ _; simp; omega) (by show x2.toArray.size * 4 ≤ _; simp; omega) w')
      have HN := Lib.hid (show ((runesL (⟨x2.toArray⟩ : ByteArray).data.toList).length : Int) = cntN x2 from runesL_cnt x2)
      clear e5 hx q1 q2 e1
      by_cases hx1 : 0 < x1
      · have hm : max x1 0 = x1 := by omega
        rw [hm] at HCN
        have f1 : IntKind.i64.wrap (c + x1) = c + x1 := IntWalk.i64_in _ (by omega)
        go_wp2_with fail
        refine (HCT.out _).mono ?_
        rintro e w2 ⟨v, rfl, hr, hb2⟩
        obtain ⟨p, cc, rfl⟩ := owns_slice hr
        have HB2 := Lib.hid (HB.out.trans (hb2.mono HB.out.size))
        generalize (runesL (⟨x2.toArray⟩ : ByteArray).data.toList).length = n2 at *
        have hn2 := HN.out
        have f2 : IntKind.i64.wrap (c + x1 + (n2 : Int)) = c + x1 + n2 := IntWalk.i64_in _ (by omega)
        clear hb2 hr hn2
        go_wp2
        go_roundg (gk - 1)
        case measure => have := HG.out; omega
        case rel => exact ⟨k + 1, _, by have := HG.out; omega, by go_num, rfl, by rw [HCN.out, ← HN.out]; omega, HB2.out⟩
      · have hm : max x1 0 = 0 := by omega
        rw [hm] at HCN
        go_wp2_with fail
        refine (HCT.out _).mono ?_
        rintro e w2 ⟨v, rfl, hr, hb2⟩
        obtain ⟨p, cc, rfl⟩ := owns_slice hr
        have HB2 := Lib.hid (HB.out.trans (hb2.mono HB.out.size))
        generalize (runesL (⟨x2.toArray⟩ : ByteArray).data.toList).length = n2 at *
        have hn2 := HN.out
        have f2 : IntKind.i64.wrap (c + (n2 : Int)) = c + n2 := IntWalk.i64_in _ (by omega)
        clear hb2 hr hn2
        go_wp2
        go_roundg (gk - 1)
        case measure => have := HG.out; omega
        case rel => exact ⟨k + 1, _, by have := HG.out; omega, by go_num, rfl, by rw [HCN.out, ← HN.out]; omega, HB2.out⟩
    · have HE := Lib.hid (show costE (E.take k) = costE E by rw [List.take_of_length_le (by omega)])
      go_wp2
      go_ret
      exact ⟨by rw [HC.out, HE.out]; rfl, HB.out⟩
end Go.Proofs.Ytipoifokcnbfnaa
