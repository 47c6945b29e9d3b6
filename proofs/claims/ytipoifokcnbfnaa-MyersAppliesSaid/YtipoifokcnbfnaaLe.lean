/- The walk of MyersApplies. -/
import Derived.Test.YtipoifokcnbfnaaLc
namespace Go.Proofs.Ytipoifokcnbfnaa
open Go.RowKit Go.WideShapes Go.ChangeShapes Go.ChangeMaps Go.Deep
set_option linter.unusedVariables false

/-- An operation whose guard says yes, as one without a guard. -/
theorem wpList_unguard {P : Program} {ops : Array Oper} {Q : Exit → Act → World → Prop} {a : Act} {w : World} {rest : List Oper} {dst : Option Tmp} {op : Op} {ty : TypeId} {pos : String} {after : Array Edge} {g : Option (Nat × Bool)}
    (hw : Region.wanted ⟨dst, op, ty, pos, after, g⟩ (yielded ops a.tmps) = true) (h : wpList P ops Q (⟨dst, op, ty, pos, after, none⟩ :: rest) a w) : wpList P ops Q (⟨dst, op, ty, pos, after, g⟩ :: rest) a w := by
  unfold wpList at h ⊢
  rw [if_pos hw]
  rw [if_pos (by rfl)] at h
  exact h

set_option maxHeartbeats 4000000 in
set_option maxRecDepth 100000 in
theorem lawApplies_any (a : ByteArray) (hsa : a.size ≤ maxLen) (p : Option Addr) (cap : Nat) (E : List Ed) (w : World) (hin : edR.In w p E) (hn : p = none → E = [] ∧ cap = 0) :
    Calls Try.prog 7 #[.string a, .slice p E.length cap] w fun e w' => e = .returned (.bool true) ∧ Below w.heap.size w w' := by
  by_cases h1 : 2000 < a.size
  · go_enter Try.func7, Try.ntmps7
    go_wp2
    go_ret
    exact ⟨rfl, Below.refl _ _⟩
  by_cases h2 : 60 < E.length
  · go_enter Try.func7, Try.ntmps7
    go_wp2
    go_ret
    exact ⟨rfl, Below.refl _ _⟩
  have HX := Lib.hid hin
  have HN := Lib.hid hn
  have HAA := Lib.hid (fun (ht : ∀ e ∈ E, e.2.2.length ≤ 40000) p c w hin => apply_any a (by omega) p c E w (by omega) ht hin)
  have HRA := Lib.hid (fun (ht : ∀ e ∈ E, e.2.2.length ≤ 40000) p c w hin => rapply_any a (by omega) p c E w (by omega) ht hin)
  clear hin hn
  go_enter Try.func7, Try.ntmps7
  go_wp2_with fail
  go_loopg [5] E.length (fun g v5 wr => ∃ (k : Nat), g + k = E.length ∧ v5 = .int .i64 k ∧ (∀ e ∈ E.take k, e.2.1 ≤ 1099511627776 ∧ e.2.2.length ≤ 200) ∧ w = wr)
  case atStart => exact ⟨0, by omega, rfl, by simp, rfl⟩
  case round =>
    obtain ⟨k, hg, rfl, hc, rfl⟩ := hrel
    have HG := Lib.hid hg
    have HC := Lib.hid hc
    clear hg hc
    by_cases hk : k < E.length
    · rcases HX.out.2 with h | ⟨b, off, rfl, hlt, hcl⟩
      · subst h; simp at hk
      have hxk : E[k]? = some (E.getD k ed0) := by simp [List.getD_eq_getElem?_getD, hk]
      obtain ⟨q0, q1, q2⟩ := rec_cells (hcl k _ hxk)
      rw [show edR.sz = 3 from rfl] at q0 q1 q2
      have i1 : (k : Int) < E.length := by omega
      have HTK := Lib.hid (take_snocB ed0 E k hk)
      clear hcl hxk
      obtain ⟨⟨x0, x1, x2⟩, hx⟩ : ∃ x, x = E.getD k ed0 := ⟨_, rfl⟩
      rw [← hx] at q0 q1 q2 HTK
      simp only at q0 q1 q2
      clear hx
      have hsz : (⟨x2.toArray⟩ : ByteArray).size = x2.length := by show x2.toArray.size = _; simp
      by_cases hl : 200 < x2.length
      · have hl' : 200 < (⟨x2.toArray⟩ : ByteArray).size := by omega
        go_wp2
        go_ret
        exact ⟨rfl, Below.refl _ _⟩
      · have hl' : ¬ 200 < (⟨x2.toArray⟩ : ByteArray).size := by omega
        by_cases hd : 1099511627776 < x1
        · go_wp2
          go_ret
          exact ⟨rfl, Below.refl _ _⟩
        · go_wp2
          go_roundg (gk - 1)
          case measure => have := HG.out; omega
          case rel => exact ⟨k + 1, by have := HG.out; omega, by go_num, (by rw [HTK.out]; intro e he; rcases List.mem_append.1 he with he | he; exact HC.out e he; rw [List.mem_singleton] at he; subst he; exact ⟨by simpa using hd, by simpa using hl⟩), rfl⟩
    · have hall : ∀ e ∈ E, e.2.1 ≤ 1099511627776 ∧ e.2.2.length ≤ 200 := by
        have := HC.out; rwa [List.take_of_length_le (by omega)] at this
      have HCA := Lib.hid (show ∀ e ∈ E, e.2.2.length ≤ 40000 from fun e he => by have := (hall e he).2; omega)
      have HLI := Lib.hid (show Light E from ⟨by omega, fun e he => ⟨(hall e he).1, HCA.out e he⟩⟩)
      have HAP := Lib.hid (HAA.out HCA.out)
      have HRP := Lib.hid (HRA.out HCA.out)
      clear HAA HRA HC hall
      obtain ⟨R1, hR1⟩ : ∃ R, R = (applyL a.data.toList E).1 := ⟨_, rfl⟩
      obtain ⟨R2, hR2⟩ : ∃ R, R = (applyL a.data.toList E).2 := ⟨_, rfl⟩
      rw [← hR1, ← hR2] at HAP HRP
      clear hR1 hR2
      obtain ⟨RB, hRB⟩ : ∃ B : ByteArray, B = ⟨R1.toArray⟩ := ⟨_, rfl⟩
      rw [← hRB] at HAP HRP
      clear hRB
      have hbe := (Below.refl w.heap.size w).alloc (Nat.le_refl _) (.cells #[] 42)
      have HBE := Lib.hid hbe
      have HRE := Lib.hid (Rec.row.empty (R := edR) (e := 42) (w := w))
      have HI1 := Lib.hid (HX.out.below hbe)
      have hlen : E.length ≤ 60 := by omega
      have HLE := Lib.hid hlen
      clear hbe
      go_wp2_with (at_builtin; refine Rec.wpList_app ed31 rfl _ _ rfl w.heap.size _ [] E E (by simp) rfl HRE.out p cap rfl HI1.out HN.out (by have := HLE.out; simp; omega) HBE.out.size ?_)
      rintro v1 w1 ho1 _ hb1
      obtain ⟨p1, c1, rfl, _, _, hin1, hn1⟩ := ho1.sl
      have HB1 := Lib.hid (HBE.out.trans hb1)
      have HAP1 := Lib.hid (HAP.out p1 c1 w1 hin1)
      clear ho1 hb1 hin1 hn1 HBE HRE HI1
      go_wp2_with fail
      refine HAP1.out.mono ?_
      rintro e w2 ⟨rfl, hb2⟩
      have HB2 := Lib.hid (HB1.out.trans (hb2.mono HB1.out.size))
      have HRP2 := Lib.hid (HRP.out p cap w2 (HX.out.below HB2.out))
      clear hb2
      go_wp2_with fail
      refine HRP2.out.mono ?_
      rintro e w3 ⟨rfl, hb3⟩
      have HB3 := Lib.hid (HB2.out.trans (hb3.mono HB2.out.size))
      have hbe := (Below.refl w3.heap.size w3).alloc (Nat.le_refl _) (.cells #[] 42)
      have HBE := Lib.hid hbe
      have HRE := Lib.hid (Rec.row.empty (R := edR) (e := 42) (w := w3))
      have HI3 := Lib.hid ((HX.out.below HB3.out).below hbe)
      clear hb3 hbe
      have g2 : (R2 == R2) = true := by simp
      go_wp2_with (at_builtin; refine wpList_unguard (by rfl) ?_; refine Rec.wpList_app ed31 rfl _ _ rfl w3.heap.size _ [] E E (by simp) rfl HRE.out p cap rfl HI3.out HN.out (by have := HLE.out; simp; omega) HBE.out.size ?_)
      rintro v4 w4 ho4 _ hb4
      obtain ⟨p4, c4, rfl, _, _, hin4, hn4⟩ := ho4.sl
      have HB4 := Lib.hid (HB3.out.trans ((HBE.out.trans hb4).mono HB3.out.size))
      have HC4 := Lib.hid (costE_any p4 c4 E w4 HLI.out hin4)
      obtain ⟨ce, hce⟩ : ∃ c, c = costE E := ⟨_, rfl⟩
      rw [← hce] at HC4
      have HC5 := Lib.hid (fun w5 (hb : Below w4.heap.size w4 w5) => rcostE_any p cap E w5 HLI.out ((HX.out.below HB4.out).below hb))
      rw [← hce] at HC5
      clear ho4 hb4 hin4 hn4 HBE HRE HI3 hce
      go_wp2_with fail
      refine HC4.out.mono ?_
      rintro e w5 ⟨rfl, hb5⟩
      have HB5 := Lib.hid (HB4.out.trans (hb5.mono HB4.out.size))
      have HC6 := Lib.hid (HC5.out w5 hb5)
      clear hb5
      go_wp2_with fail
      refine HC6.out.mono ?_
      rintro e w6 ⟨rfl, hb6⟩
      have HB6 := Lib.hid (HB5.out.trans (hb6.mono HB5.out.size))
      have g3 : (ce == ce) = true := by simp
      clear hb6
      go_wp2_with fail
      refine (awake_any _).mono ?_
      rintro e w9 ⟨rfl, hb9⟩
      have HB9 := Lib.hid (HB6.out.trans (hb9.mono HB6.out.size))
      clear hb9
      go_wp2
      go_ret
      exact ⟨rfl, HB9.out⟩
theorem myersApplies_walk {H : Type} {enc : TypeId × Value → H} {W : World} {b1 : Nat} {v1 : Value} {d1 : DataW H} {p1 : List MemPlace} (a : ByteArray) (ha : a.size ≤ maxLen)
    (k1 : Value.okWide Try.prog W .any b1 31 v1) (h1 : DataW.Trod enc Try.prog W 0 (fun _ => true) true 31 v1 d1 p1) :
    Calls Try.prog 7 #[.string a, v1] W fun e w' => e = .returned (.bool true) ∧ Below W.heap.size W w' := by
  obtain ⟨xs, p, c, rfl, hc1, hm1, hi1, hn1⟩ := reads_eds h1 (okWide_slice Try.underlying31 k1)
  exact lawApplies_any a ha p c xs W hi1 hn1
end Go.Proofs.Ytipoifokcnbfnaa
