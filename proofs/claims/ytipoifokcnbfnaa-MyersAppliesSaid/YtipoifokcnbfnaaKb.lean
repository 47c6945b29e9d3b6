/- The walk of least. -/
import Derived.Test.YtipoifokcnbfnaaK
namespace Go.Proofs.Ytipoifokcnbfnaa
open Go.RowKit
set_option linter.unusedVariables false

set_option maxHeartbeats 2000000 in
set_option maxRecDepth 100000 in
theorem least_any (s : Nat) (a b : List Int) (d : Nat) (pl : Option Addr) (l : List Int) (c : Nat) (k : Int) (w : World) (h : Srch w s a b) (ha : a.length ≤ 4096) (hb : b.length ≤ 4096) (hd : d ≤ 100000) (hk : -100000 ≤ k ∧ k ≤ 100000)
    (hl : (numR .i32).In w pl l) (hll : l.length ≤ 100001) (hbd : ∀ x ∈ l, 0 ≤ x ∧ x ≤ 2147483647) :
    Calls Try.prog 24 #[.pointer (some ⟨s, 0, none⟩), .int .i64 d, .slice pl l.length c, .int .i64 k] w fun e w' => e = .returned (.int .i64 (leastL a b d l k)) ∧ Below w.heap.size w w' := by
  have HD := Lib.hid (diag_any s a b d 0 w h ha hb hd (by omega))
  have HL := Lib.hid hl
  have HBD := Lib.hid hbd
  have hdg : -120000 ≤ diag a b d 0 ∧ diag a b d 0 ≤ 120000 := by unfold diag; omega
  have HLE := Lib.hid (show leastL a b d l k = if k - diag a b d 0 < 0 ∨ (k - diag a b d 0) % 2 ≠ 0 ∨ (l.length : Int) ≤ (k - diag a b d 0) / 2 then never else l.getD ((k - diag a b d 0) / 2).toNat never from rfl)
  clear h hl hbd
  generalize leastL a b d l k = R at *
  generalize diag a b d 0 = g at *
  have f0 : IntKind.i64.wrap (k - g) = k - g := IntWalk.i64_in _ (by omega)
  obtain ⟨t, ht⟩ : ∃ t, t = k - g := ⟨_, rfl⟩
  rw [← ht] at f0 HLE
  have f1 : IntKind.i64.wrap (k - g) = t := by rw [IntWalk.i64_in _ (by omega)]; exact ht.symm
  have htb : -300000 ≤ t ∧ t ≤ 300000 := by omega
  clear f0 ht
  by_cases h0 : t < 0
  · have HR := Lib.hid (show R = never by rw [HLE.out, if_pos (.inl h0)])
    have g0 : decide (t < 0) = true := decide_eq_true h0
    go_enter Try.func24, Try.ntmps24
    go_wp2_with fail
    refine HD.out.mono ?_
    rintro e w1 ⟨rfl, hb1⟩
    have HB1 := Lib.hid hb1
    clear hb1
    go_wp2
    go_ret
    exact ⟨by rw [HR.out]; rfl, HB1.out⟩
  · have g0 : decide (t < 0) = false := decide_eq_false h0
    have h0' : 0 ≤ t := by omega
    by_cases h2 : t % 2 = 0
    · by_cases h3 : (l.length : Int) ≤ t / 2
      · have HR := Lib.hid (show R = never by rw [HLE.out, if_pos (.inr (.inr h3))])
        have g2 : (t % 2 != 0) = false := by simpa using h2
        have g3 : decide ((l.length : Int) ≤ t / 2) = true := decide_eq_true h3
        go_enter Try.func24, Try.ntmps24
        go_wp2_with fail
        refine HD.out.mono ?_
        rintro e w1 ⟨rfl, hb1⟩
        have HB1 := Lib.hid hb1
        clear hb1 h2
        go_wp2
        go_ret
        exact ⟨by rw [HR.out]; rfl, HB1.out⟩
      · obtain ⟨m, hm⟩ : ∃ m : Nat, t / 2 = m := ⟨(t / 2).toNat, by omega⟩
        have hml : m < l.length := by omega
        have HR := Lib.hid (show R = l.getD m never by rw [HLE.out, if_neg (by omega), hm, Int.toNat_natCast])
        have g2 : (t % 2 != 0) = false := by simpa using h2
        have g3 : decide ((l.length : Int) ≤ (m : Int)) = false := decide_eq_false (by omega)
        have g4 : (m : Int) < l.length := by omega
        rcases HL.out.2 with h | ⟨b0, o, rfl, hlt, hc⟩
        · subst h; simp at hml
        have hx : l[m]? = some (l.getD m never) := by simp [List.getD_eq_getElem?_getD, hml]
        have HC := Lib.hid (hc m _ hx)
        have hxb := HBD.out _ (List.mem_of_getElem? hx)
        obtain ⟨x, hxe⟩ : ∃ x, x = l.getD m never := ⟨_, rfl⟩
        rw [← hxe] at HR HC hxb
        have f2 : IntKind.i64.wrap x = x := IntWalk.i64_in _ (by omega)
        have HM := Lib.hid hm
        clear hx hxe hc h3 h2
        go_enter Try.func24, Try.ntmps24
        go_wp2_with fail
        refine HD.out.mono ?_
        rintro e w1 ⟨rfl, hb1⟩
        have HB1 := Lib.hid hb1
        have e1 := num_cell (HC.out.below hb1)
        clear hb1
        have hm' := HM.out
        go_wp2
        go_ret
        exact ⟨by rw [HR.out]; rfl, HB1.out⟩
    · have HR := Lib.hid (show R = never by rw [HLE.out, if_pos (.inr (.inl h2))])
      have g2 : (t % 2 != 0) = true := by simpa using h2
      go_enter Try.func24, Try.ntmps24
      go_wp2_with fail
      refine HD.out.mono ?_
      rintro e w1 ⟨rfl, hb1⟩
      have HB1 := Lib.hid hb1
      clear hb1 h2
      go_wp2
      go_ret
      exact ⟨by rw [HR.out]; rfl, HB1.out⟩
end Go.Proofs.Ytipoifokcnbfnaa
