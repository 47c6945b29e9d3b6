/- One act on a document. -/
import Derived.Test.YtcgioboiebanpaaQa
namespace Go.Proofs.Ytcgioboiebanpaa
open Go.RowKit Go.Maps
set_option linter.unusedVariables false

set_option maxHeartbeats 4000000 in
set_option maxRecDepth 100000 in
theorem do_any (d : Nat) (v : Value) (rs : List MR) (x : AV) (w : World) (hx : actRng x) (hs : x.2.2.2.1.size ≤ 1000) (ht : tot rs ≤ 5000) (h : DocP w d v rs) :
    Calls Try.prog 12 #[.pointer (some ⟨d, 0, none⟩), .agg (actL x).toArray] w fun e w' => e = .returned (.int .i64 (doE rs x)) ∧ (∃ v', DocP w' d v' (doR rs x) ∧ Step d v v' w w') ∧ w.heap.size < w'.heap.size := by
  have HBX := Lib.hid (ActAt.box w x hx.k32 hx.a32)
  obtain ⟨W, hW⟩ : ∃ W, W = w.alloc (.cells (actL x).toArray 28) := ⟨_, rfl⟩
  obtain ⟨b, hb⟩ : ∃ b, b = w.heap.size := ⟨_, rfl⟩
  have hbw : Below w.heap.size w W := by rw [hW]; exact (Below.refl _ _).alloc (Nat.le_refl _) _
  have HBW := Lib.hid (Step.of_below (d := d) (v := v) hbw)
  have HD := Lib.hid (h.below hbw)
  have HSS := Lib.hid (show w.heap.size < W.heap.size by rw [hW]; simp)
  rw [← hW, ← hb] at HBX
  have HXR := Lib.hid hx
  have HSZ := Lib.hid hs
  have HT := Lib.hid ht
  obtain ⟨xk, ⟨kt, kc, ki⟩, ⟨at_, ac, ai⟩, s, n⟩ := x
  obtain ⟨z1, z2, z3, z4, z5⟩ := kd_wrap xk
  have HKD := Lib.hid (show kd (xk, (kt, kc, ki), (at_, ac, ai), s, n) = Int.tmod (Int.tmod xk 5 + 5) 5 from rfl)
  have e0 := HBX.out.kind
  have f1 := HBX.out.kf
  have f2 := HBX.out.ka
  have f3 := HBX.out.af
  have f4 := HBX.out.aa
  have f5 := HBX.out.text
  have f6 := HBX.out.n
  simp only [Nat.zero_add] at e0 f1 f2 f3 f4 f5 f6
  clear hx hs ht h hbw z4 z5
  go_enter Try.func12, Try.ntmps12
  go_upto_region 1 with fail
  rw [← hW, ← hb]
  clear hW hb
  by_cases c2 : Int.tmod (Int.tmod xk 5 + 5) 5 = 2
  · have HE := Lib.hid (show doE rs (xk, (kt, kc, ki), (at_, ac, ai), s, n) = delE rs (kt, kc, ki) n by unfold doE; rw [HKD.out, if_pos c2])
    have HR := Lib.hid (show doR rs (xk, (kt, kc, ki), (at_, ac, ai), s, n) = delR rs (kt, kc, ki) n by unfold doR; rw [HKD.out, if_pos c2])
    go_wp2_with fail
    refine (delete_P d v rs (kt, kc, ki) n W HXR.out.k32 HT.out HD.out).mono ?_
    rintro e w3 ⟨rfl, v3, h3, h4⟩
    have HD3 := Lib.hid h3
    have HS3 := Lib.hid (HBW.out.trans h4)
    have HLT := Lib.hid (Nat.lt_of_lt_of_le HSS.out h4.size)
    clear h3 h4
    go_wp2
    go_ret
    exact ⟨ret_i HE.out.symm, ⟨v3, by rw [HR.out]; exact HD3.out, HS3.out⟩, HLT.out⟩
  by_cases c1 : Int.tmod (Int.tmod xk 5 + 5) 5 = 1
  · have HE := Lib.hid (show doE rs (xk, (kt, kc, ki), (at_, ac, ai), s, n) = insE rs (kt, kc, ki) (at_, ac, ai) true s.data.toList by unfold doE; rw [HKD.out, c1]; rfl)
    have HR := Lib.hid (show doR rs (xk, (kt, kc, ki), (at_, ac, ai), s, n) = insL rs (kt, kc, ki) (at_, ac, ai) true s.data.toList by unfold doR; rw [HKD.out, c1]; rfl)
    go_wp2_with fail
    refine (insert_P d v rs (kt, kc, ki) (at_, ac, ai) true s W HXR.out.k32 HXR.out.a32 HSZ.out HT.out HD.out).mono ?_
    rintro e w3 ⟨rfl, v3, h3, h4⟩
    have HD3 := Lib.hid h3
    have HS3 := Lib.hid (HBW.out.trans h4)
    have HLT := Lib.hid (Nat.lt_of_lt_of_le HSS.out h4.size)
    clear h3 h4
    go_wp2
    go_ret
    exact ⟨ret_i HE.out.symm, ⟨v3, by rw [HR.out]; exact HD3.out, HS3.out⟩, HLT.out⟩
  · have HE := Lib.hid (show doE rs (xk, (kt, kc, ki), (at_, ac, ai), s, n) = insE rs (kt, kc, ki) (at_, ac, ai) false s.data.toList by unfold doE; rw [HKD.out, if_neg c2, decide_eq_false c1])
    have HR := Lib.hid (show doR rs (xk, (kt, kc, ki), (at_, ac, ai), s, n) = insL rs (kt, kc, ki) (at_, ac, ai) false s.data.toList by unfold doR; rw [HKD.out, if_neg c2, decide_eq_false c1])
    go_wp2_with fail
    refine (insert_P d v rs (kt, kc, ki) (at_, ac, ai) false s W HXR.out.k32 HXR.out.a32 HSZ.out HT.out HD.out).mono ?_
    rintro e w3 ⟨rfl, v3, h3, h4⟩
    have HD3 := Lib.hid h3
    have HS3 := Lib.hid (HBW.out.trans h4)
    have HLT := Lib.hid (Nat.lt_of_lt_of_le HSS.out h4.size)
    clear h3 h4
    go_wp2
    go_ret
    exact ⟨ret_i HE.out.symm, ⟨v3, by rw [HR.out]; exact HD3.out, HS3.out⟩, HLT.out⟩
end Go.Proofs.Ytcgioboiebanpaa
