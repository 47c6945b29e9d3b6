/- The law OrderPlaces: walk. -/
import Derived.Test.YteielgdgmmeciaaMe
namespace Go.Proofs.Yteielgdgmmeciaa
open Go.RowKit Go.WideShapes Go.ChangeShapes Go.ChangeMaps
set_option linter.unusedVariables false

set_option maxHeartbeats 4000000 in
set_option maxRecDepth 100000 in
theorem places_any (a : Option Addr) (cap : Nat) (ks : List Key) (w : World) (hcap : ks.length ≤ cap) (hcm : cap ≤ maxLen) (hin : keyR.In w a ks) (hn : a = none → ks = [] ∧ cap = 0) :
    Calls Try.prog 8 #[.slice a ks.length cap] w fun e w' => e = .returned (.bool true) ∧ Below w.heap.size w w' := by
  by_cases h1 : 300 < ks.length
  · go_enter Try.func8, Try.ntmps8
    go_wp2
    go_ret
    exact ⟨rfl, Below.refl _ _⟩
  have hb := (Below.refl w.heap.size w).alloc (Nat.le_refl _) (.cells #[] 25)
  have HB0 := Lib.hid hb
  have HR0 := Lib.hid (Rec.row.empty (R := keyR) (e := 25) (w := w))
  have HIN := Lib.hid hin
  have HIN0 := Lib.hid (hin.below hb)
  have HN := Lib.hid hn
  have HC := Lib.hid (show ([] : List Key).length + ks.length ≤ 100000000 by simp; omega)
  have HE := Lib.hid (show ks = [] ++ ks by simp)
  have HPL := Lib.hid (show (mergeI (leK (plCmp ks)) (places ks.length)).length = ks.length by rw [mergeI_length, places_length])
  unfold maxLen at hcm
  clear hb hin hn
  go_enter Try.func8, Try.ntmps8
  go_wp2_with (at_builtin; refine Rec.wpList_app key38 rfl _ _ rfl w.heap.size _ [] ks ks HE.out rfl HR0.out a cap rfl HIN0.out HN.out HC.out HB0.out.size ?_)
  rintro v1 w1 ho1 _ hb1
  obtain ⟨a1, c1, rfl, q1, q2, q3, q4⟩ := ho1.sl
  have Q2 := Lib.hid q2
  have Q3 := Lib.hid q3
  have HB1 := Lib.hid (HB0.out.trans hb1)
  unfold maxLen at q2
  clear ho1 hb1 q3 q4
  go_wp2_with fail
  refine (sortKeys_any a1 c1 ks _ (by omega) Q3.out Q2.out q1).mono ?_
  rintro e w2 ⟨v2, rfl, ho2, hb2⟩
  have HB2 := Lib.hid (HB1.out.trans (hb2.mono HB1.out.size))
  have HO2 := Lib.hid ho2
  clear ho2 hb2
  go_wp2_with fail
  refine (rsortKeys_any a cap ks _ (by omega) (HIN.out.below HB2.out)).mono ?_
  rintro e w3 ⟨v3, rfl, ho3, hb3⟩
  have HB3 := Lib.hid (HB2.out.trans (hb3.mono HB2.out.size))
  have hs2 := (HO2.out.below hb3).sl
  have hs3 := ho3.sl
  obtain ⟨rs, hrs⟩ : ∃ rs, rs = mergeI (leK (plCmp ks)) (places ks.length) := ⟨_, rfl⟩
  rw [← hrs] at hs2 hs3 HPL
  obtain ⟨a2, c2, rfl, r1, r2, r3, r4⟩ := hs2
  obtain ⟨a3, c3, rfl, s1, s2, s3, s4⟩ := hs3
  have R3 := Lib.hid r3
  have S3 := Lib.hid s3
  have hl := HPL.out
  have hrl : rs.length ≤ 1000000 := by omega
  clear ho3 hb3 hrs r2 r3 r4 s2 s3 s4 HO2 hl
  go_wp2_with fail
  refine (ints_any a2 a3 c2 c3 rs rs _ hrl hrl R3.out S3.out).mono ?_
  rintro e w4 ⟨rfl, hb4⟩
  rw [show (rs == rs) = true from beq_self_eq_true _]
  have HB4 := Lib.hid (HB3.out.trans (hb4.mono HB3.out.size))
  clear hb4
  go_wp2_with fail
  refine (awake_any _).mono ?_
  rintro e w5 ⟨rfl, hb5⟩
  have HB5 := Lib.hid (HB4.out.trans (hb5.mono HB4.out.size))
  clear hb5
  go_wp2
  go_ret
  exact ⟨rfl, HB5.out⟩

theorem orderPlaces_walk {H : Type} {enc : TypeId × Value → H} {W : World} {b0 : Nat} {v0 : Value} {d0 : DataW H} {p0 : List MemPlace}
    (k0 : Value.okWide Try.prog W .any b0 38 v0) (h0 : DataW.Trod enc Try.prog W 0 (fun _ => true) true 38 v0 d0 p0) :
    Calls Try.prog 8 #[v0] W fun e w' => e = .returned (.bool true) ∧ Below W.heap.size W w' := by
  obtain ⟨ks, a, cap, rfl, h1, h2, h3, h4⟩ := Rec.reads (R := keyR) Try.underlying38 (by kernel_rfl) (fun fuel cs y hy => by
    obtain ⟨t, c, i, hc, e, _, _⟩ := trod_key hy
    exact ⟨(t, c, i), hc, e⟩) h0 (okWide_slice Try.underlying38 k0)
  exact places_any a cap ks W h1 h2 h3 h4

end Go.Proofs.Yteielgdgmmeciaa
